import Derived.Test.YtcbdacmdmaoegaaStab6
/- The walks of the reference's Less and Sort. -/
namespace Go.Proofs.Ytcbdacmdmaoegaa
open Go Go.RowKit Reg Mem

theorem less_calls (a b c d a' b' c' d' : Int) (w : World) :
    Calls Try.prog 39 #[.agg #[.int .i64 a, .int .i64 b, .int .i64 c, .int .i64 d], .agg #[.int .i64 a', .int .i64 b', .int .i64 c', .int .i64 d']] w fun e w' => e = .returned (.bool (Key.lt ⟨a, b, c, d⟩ ⟨a', b', c', d'⟩)) ∧ Below w.heap.size w w' := by
  have S := St.init (fun _ => False) w
  go_enter Try.func39, Try.ntmps39
  go_wp2_with first
    | ((with_reducible refine tot_done ?ht ?_); (case ht => kernel_rfl))
    | ((with_reducible apply wps_boxa S); (case hx => rfl); clear S; intro bz wz S)
    | ((with_reducible apply wps_box1 (v := .int _ _) S); (case hx => rfl); (case h1 => rfl); clear S; intro bz wz S)
    | ((with_reducible apply wps_box1 (v := .bool _) S); (case hx => rfl); (case h1 => rfl); clear S; intro bz wz S)
    | ((with_reducible apply wps_box1 (v := .slice _ _ _) S); (case hx => rfl); (case h1 => rfl); clear S; intro bz wz S)
    | ((with_reducible apply wps_box1 (v := .pointer _) S); (case hx => rfl); (case h1 => rfl); clear S; intro bz wz S)
    | ((with_reducible apply wps_box1 (v := .map _) S); (case hx => rfl); (case h1 => rfl); clear S; intro bz wz S)
    | ((with_reducible apply wps_box1 (v := .string _) S); (case hx => rfl); (case h1 => rfl); clear S; intro bz wz S)
    | ((with_reducible apply wps_box1 (v := .func _ _ _) S); (case hx => rfl); (case h1 => rfl); clear S; intro bz wz S)
    | ((with_reducible apply wps_load S 0); (case hx => rfl); (case hi => rfl); (case hT => decide +kernel); (case hu => rfl))
    | ((with_reducible apply wps_load S 1); (case hx => rfl); (case hi => rfl); (case hT => decide +kernel); (case hu => rfl))
    | ((with_reducible apply wps_load S 2); (case hx => rfl); (case hi => rfl); (case hT => decide +kernel); (case hu => rfl))
    | ((with_reducible apply wps_load S 3); (case hx => rfl); (case hi => rfl); (case hT => decide +kernel); (case hu => rfl))
  all_goals go_ret
  all_goals refine ⟨ret_bool ?_, S.below⟩
  · exact lt1 ‹_›
  · exact lt2 ‹_› ‹_›
  · exact lt3 ‹_› ‹_› ‹_›
  · exact lt4 ‹_› ‹_› ‹_›
theorem insE_at {out : List Event} {x : Event} {n : Nat} (h1 : ∀ y ∈ out.take n, x.key.lt y.key = false) (h2 : n = out.length ∨ ∃ y, out[n]? = some y ∧ x.key.lt y.key = true) : insE out x = out.take n ++ x :: out.drop n := by
  have e : out.takeWhile (fun y => !x.key.lt y.key) = out.take n ∧ out.dropWhile (fun y => !x.key.lt y.key) = out.drop n := by
    induction out generalizing n with
    | nil => simp
    | cons a out ih =>
      cases n with
      | zero =>
        rcases h2 with h2 | ⟨y, hy, hl⟩
        · simp at h2
        · simp at hy; subst hy; simp [hl]
      | succ n =>
        have ha : x.key.lt a.key = false := h1 a (by simp)
        have := ih (n := n) (fun y hy => h1 y (by simp [hy])) (by
          rcases h2 with h2 | ⟨y, hy, hl⟩
          · simp at h2; exact .inl h2
          · exact .inr ⟨y, by simpa using hy, hl⟩)
        simp [ha, this.1, this.2]
  rw [insE, e.1, e.2]
theorem fold_step {l : List Event} {i : Nat} {x : Event} (h : l[i]? = some x) : (l.take (i + 1)).foldl insE [] = insE ((l.take i).foldl insE []) x := by
  rw [List.take_add_one, h]; simp
def RSoRel1 (ad : Option Addr) (cp : Nat) (l : List Event) (w : World) (out i : Value) (wr : World) : Prop :=
  ∃ (j : Nat), j ≤ l.length ∧ i = .int .i64 j ∧ St (fun _ => False) w wr [Own 30 Event.cells 7 out (sortE (l.take j)), Sl true Event.cells 7 (.slice ad l.length cp) l]
def RSoRel2 (va : Value) (ad : Option Addr) (cp : Nat) (l out : List Event) (x : Event) (w : World) (n : Value) (wr : World) : Prop :=
  ∃ (k : Nat), k ≤ out.length ∧ n = .int .i64 k ∧ (∀ y ∈ out.take k, x.key.lt y.key = false) ∧ St (fun _ => False) w wr [Sl true Event.cells 7 va out, Sl true Event.cells 7 (.slice ad l.length cp) l]
set_option maxRecDepth 100000 in
set_option maxHeartbeats 8000000 in
theorem rsort_calls (v : Value) (l : List Event) (w : World) (F : Nat → Prop) (h : (Sl true Event.cells 7 v l).at_ w F) (hn : l.length ≤ 65536) : Calls Try.prog 14 #[v] w (SortPost l w) := by
  have S : St (fun _ => False) w w [Sl true Event.cells 7 v l] := (St.init _ w).share rfl rfl h
  obtain ⟨ad, cp, rfl, _⟩ := (S.sl 0 rfl).elim fun _ h => h.form
  clear h
  replace S := S.nil 30 Event.cells 7
  go_enter Try.func14, Try.ntmps14
  go_wp2_with first
    | go_skip
    | ((with_reducible refine wpList_skip ?hw ?_); (case hw => with_unfolding_all rfl); simp only [Act.put, List.setIfInBounds_toArray, List.set_cons_succ, List.set_cons_zero])
    | ((with_reducible refine tot_done ?ht ?_); (case ht => kernel_rfl))
    | ((with_reducible apply wps_text S); (case hm => kernel_rfl); (case hB => decide +kernel); clear S; intro wz S)
    | ((with_reducible apply wps_loada (T := 28) (k := 4) S 0); (case hx => rfl); (case hi => rfl); (case hT => decide +kernel); (case hk => exact Nat.le_of_ble_eq_true rfl))
    | ((with_reducible apply wps_loada (T := 30) (k := 7) S 0); (case hx => rfl); (case hi => rfl); (case hT => decide +kernel); (case hk => exact Nat.le_of_ble_eq_true rfl))
  go_loopw [3, 4] (fun out i wr => RSoRel1 ad cp l w out i wr) (fun _ i _ => l.length - (intOf i).toNat)
  case atStart => exact ⟨0, Nat.zero_le _, rfl, S⟩
  case round =>
    clear S
    obtain ⟨i, hi, rfl, S⟩ := hrel
    by_cases hlt : i < l.length
    · obtain ⟨R, o, rfl⟩ : ∃ R o, ad = some ⟨R, o, none⟩ := (S.sl 1 rfl).elim fun F h => h.head (by omega)
      obtain ⟨x, hx⟩ : ∃ x, l[i]? = some x := ⟨_, List.getElem?_eq_getElem hlt⟩
      have hlt2 : (i : Int) < l.length := by omega
      have HS : Hid (sortE (l.take (i + 1)) = insE (sortE (l.take i)) x) := fold_step hx
      have hol : (sortE (l.take i)).length = i := by rw [sortE_len]; simp; omega
      generalize sortE (l.take i) = out at *
      replace S := S.freeze true 0 ecells rfl
      simp only [List.set_cons_zero] at S
      obtain ⟨ad2, c2, rfl, _⟩ := (S.sl 0 rfl).elim fun _ h => h.form
      have hol2 : out.length ≤ 65536 := by omega
      have hol3 : out.length ≤ i := by omega
      have Hx := Lib.hid hx
      clear hx
      clear hol
      go_wp2_with first
        | go_skip
        | ((with_reducible refine wpList_skip ?hw ?_); (case hw => with_unfolding_all rfl); simp only [Act.put, List.setIfInBounds_toArray, List.set_cons_succ, List.set_cons_zero])
        | ((with_reducible refine tot_done ?ht ?_); (case ht => kernel_rfl))
        | ((with_reducible apply wps_text S); (case hm => kernel_rfl); (case hB => decide +kernel); clear S; intro wz S)
        | ((with_reducible apply wps_loada (T := 28) (k := 4) S 0); (case hx => rfl); (case hi => rfl); (case hT => decide +kernel); (case hk => exact Nat.le_of_ble_eq_true rfl))
        | ((with_reducible apply wps_loada (T := 30) (k := 7) S 0); (case hx => rfl); (case hi => rfl); (case hT => decide +kernel); (case hk => exact Nat.le_of_ble_eq_true rfl))
      go_loopw [5] (fun n wr => RSoRel2 (.slice ad2 out.length c2) (some ⟨R, o, none⟩) cp l out x w n wr) (fun n _ => out.length - (intOf n).toNat)
      case atStart => exact ⟨0, Nat.zero_le _, rfl, fun y h => by simp at h, S⟩
      case round =>
        clear S
        obtain ⟨k, hk, rfl, hall, S⟩ := hrel
        have goal_ : ∀ (hstop : k = out.length ∨ ∃ y, out[k]? = some y ∧ x.key.lt y.key = true), Hid (insE out x = out.take k ++ x :: out.drop k) := fun hstop => insE_at hall hstop
        by_cases hkl : k < out.length
        · obtain ⟨y, hy⟩ : ∃ y, out[k]? = some y := ⟨_, List.getElem?_eq_getElem hkl⟩
          obtain ⟨R2, o2, rfl⟩ : ∃ R o, ad2 = some ⟨R, o, none⟩ := (S.sl 0 rfl).elim fun F h => h.head (by omega)
          have hkl2 : (k : Int) < out.length := by omega
          cases hc : x.key.lt y.key with
          | false =>
            have HC : Hid (∀ w, Calls Try.prog 39 #[.agg #[.int .i64 x.key.at_, .int .i64 x.key.src, .int .i64 x.key.sent, .int .i64 x.key.no], .agg #[.int .i64 y.key.at_, .int .i64 y.key.src, .int .i64 y.key.sent, .int .i64 y.key.no]] w fun e w' => e = .returned (.bool false) ∧ Below w.heap.size w w') := fun w => hc ▸ less_calls _ _ _ _ _ _ _ _ w
            have HA : Hid (∀ z ∈ out.take (k + 1), x.key.lt z.key = false) := fun z hz => by
              rw [List.take_add_one, hy] at hz
              rcases List.mem_append.1 hz with h | h
              · exact hall z h
              · simp at h; subst h; exact hc
            clear hc goal_ hall
            have Hy := Lib.hid hy
            clear hy
            go_wp2_with first
              | go_skip
              | ((with_reducible refine wpList_skip ?hw ?_); (case hw => with_unfolding_all rfl); simp only [Act.put, List.setIfInBounds_toArray, List.set_cons_succ, List.set_cons_zero])
              | ((with_reducible apply wps_loada_el S 1 (hj := Hx.out) (q := 0) (vs := [.int .i64 x.key.at_, .int .i64 x.key.src, .int .i64 x.key.sent, .int .i64 x.key.no, .int .i64 x.dst, .int .i64 x.kind, .int .i64 x.data]) (m := 7)); (case hx => rfl); (case hT => decide +kernel); (case hi => rfl); (case hn => omega); (case hm => rfl); (case hv => rfl))
              | ((with_reducible apply wps_loada_el S 1 (hj := Hx.out) (q := 0) (vs := [.int .i64 x.key.at_, .int .i64 x.key.src, .int .i64 x.key.sent, .int .i64 x.key.no]) (m := 4)); (case hx => rfl); (case hT => decide +kernel); (case hi => rfl); (case hn => omega); (case hm => rfl); (case hv => rfl))
              | ((with_reducible apply wps_loada_el S 0 (hj := Hy.out) (q := 0) (vs := [.int .i64 y.key.at_, .int .i64 y.key.src, .int .i64 y.key.sent, .int .i64 y.key.no, .int .i64 y.dst, .int .i64 y.kind, .int .i64 y.data]) (m := 7)); (case hx => rfl); (case hT => decide +kernel); (case hi => rfl); (case hn => omega); (case hm => rfl); (case hv => rfl))
              | ((with_reducible apply wps_loada_el S 0 (hj := Hy.out) (q := 0) (vs := [.int .i64 y.key.at_, .int .i64 y.key.src, .int .i64 y.key.sent, .int .i64 y.key.no]) (m := 4)); (case hx => rfl); (case hT => decide +kernel); (case hi => rfl); (case hn => omega); (case hm => rfl); (case hv => rfl))
              | (go_at_call 39; refine Calls.mono (HC.out _) ?_; rintro e wz ⟨rfl, hE⟩; replace S := S.ext (Keep.of_below hE); clear hE)
              | ((with_reducible refine tot_done ?ht ?_); (case ht => kernel_rfl))
              | ((with_reducible apply wps_text S); (case hm => kernel_rfl); (case hB => decide +kernel); clear S; intro wz S)
              | ((with_reducible apply wps_loada (T := 28) (k := 4) S 0); (case hx => rfl); (case hi => rfl); (case hT => decide +kernel); (case hk => exact Nat.le_of_ble_eq_true rfl))
              | ((with_reducible apply wps_loada (T := 30) (k := 7) S 0); (case hx => rfl); (case hi => rfl); (case hT => decide +kernel); (case hk => exact Nat.le_of_ble_eq_true rfl))
            go_roundw
            case rel => exact ⟨k + 1, by omega, by go_num, HA.out, S⟩
            case measure => first | (simp [intOf]; done) | (simp [intOf]; omega)
          | true =>
            have HC : Hid (∀ w, Calls Try.prog 39 #[.agg #[.int .i64 x.key.at_, .int .i64 x.key.src, .int .i64 x.key.sent, .int .i64 x.key.no], .agg #[.int .i64 y.key.at_, .int .i64 y.key.src, .int .i64 y.key.sent, .int .i64 y.key.no]] w fun e w' => e = .returned (.bool true) ∧ Below w.heap.size w w') := fun w => hc ▸ less_calls _ _ _ _ _ _ _ _ w
            have HG := goal_ (.inr ⟨y, hy, hc⟩)
            clear hc goal_ hall
            have Hy := Lib.hid hy
            clear hy
            replace S := S.nil 30 Event.cells 7
            go_wp2_with first
              | go_skip
              | ((with_reducible refine wpList_skip ?hw ?_); (case hw => with_unfolding_all rfl); simp only [Act.put, List.setIfInBounds_toArray, List.set_cons_succ, List.set_cons_zero])
              | ((with_reducible apply wps_loada_el S 2 (hj := Hx.out) (q := 0) (vs := [.int .i64 x.key.at_, .int .i64 x.key.src, .int .i64 x.key.sent, .int .i64 x.key.no, .int .i64 x.dst, .int .i64 x.kind, .int .i64 x.data]) (m := 7)); (case hx => rfl); (case hT => decide +kernel); (case hi => rfl); (case hn => omega); (case hm => rfl); (case hv => rfl))
              | ((with_reducible apply wps_loada_el S 2 (hj := Hx.out) (q := 0) (vs := [.int .i64 x.key.at_, .int .i64 x.key.src, .int .i64 x.key.sent, .int .i64 x.key.no]) (m := 4)); (case hx => rfl); (case hT => decide +kernel); (case hi => rfl); (case hn => omega); (case hm => rfl); (case hv => rfl))
              | ((with_reducible apply wps_loada_el S 1 (hj := Hy.out) (q := 0) (vs := [.int .i64 y.key.at_, .int .i64 y.key.src, .int .i64 y.key.sent, .int .i64 y.key.no, .int .i64 y.dst, .int .i64 y.kind, .int .i64 y.data]) (m := 7)); (case hx => rfl); (case hT => decide +kernel); (case hi => rfl); (case hn => omega); (case hm => rfl); (case hv => rfl))
              | ((with_reducible apply wps_loada_el S 1 (hj := Hy.out) (q := 0) (vs := [.int .i64 y.key.at_, .int .i64 y.key.src, .int .i64 y.key.sent, .int .i64 y.key.no]) (m := 4)); (case hx => rfl); (case hT => decide +kernel); (case hi => rfl); (case hn => omega); (case hm => rfl); (case hv => rfl))
              | (go_at_call 39; refine Calls.mono (HC.out _) ?_; rintro e wz ⟨rfl, hE⟩; replace S := S.ext (Keep.of_below hE); clear hE)
              | ((with_reducible apply wps_slice (E := 30) S 1 (l := 0) (u := k)); (case hx => rfl); (case hi => rfl); (case hT => exact Try.underlying22); (case hE => intro w; kernel_rfl); (case hlo => first | exact .inr rfl | exact .inl ⟨rfl, rfl⟩); (case hhi => first | exact .inr rfl | exact .inl ⟨rfl, rfl⟩); (case h1 => first | omega | (simp; omega)); (case h2 => first | omega | (simp; omega)); clear S; intro az nz cz hnz S)
              | ((with_reducible apply wps_appends elem_Ev ecells eone (by decide) S 1 (j := 0)); (case hx => rfl); (case hy => rfl); (case hi => rfl); (case hj => rfl); (case hl => first | omega | (simp; omega)); clear S; intro az nz cz wz hnz S; simp only [List.set_cons_succ, List.set_cons_zero] at S)
              | ((with_reducible apply wps_loada_el S 3 (hj := Hx.out) (q := 0) (vs := [.int .i64 x.key.at_, .int .i64 x.key.src, .int .i64 x.key.sent, .int .i64 x.key.no, .int .i64 x.dst, .int .i64 x.kind, .int .i64 x.data]) (m := 7)); (case hx => rfl); (case hT => decide +kernel); (case hi => rfl); (case hn => omega); (case hm => rfl); (case hv => rfl))
              | ((with_reducible apply wps_loada_el S 3 (hj := Hx.out) (q := 0) (vs := [.int .i64 x.key.at_, .int .i64 x.key.src, .int .i64 x.key.sent, .int .i64 x.key.no]) (m := 4)); (case hx => rfl); (case hT => decide +kernel); (case hi => rfl); (case hn => omega); (case hm => rfl); (case hv => rfl))
              | ((with_reducible apply wps_build1a (T := 22) (E := 30) S); (case hx => rfl); (case hr => intro w; kernel_rfl); clear S; intro bz wz S)
              | ((with_reducible apply wps_append1 elem_Ev ecells eone (by decide) S 2 (j := 0) (e := x)); (case hx => rfl); (case hy => rfl); (case hi => rfl); (case hj => rfl); (case he => rfl); (case hl => first | omega | (simp; omega)); clear S; intro az nz cz wz hnz S; simp only [List.set_cons_succ, List.set_cons_zero] at S)
              | ((with_reducible apply wps_slice (E := 30) S 3 (l := k) (u := out.length)); (case hx => rfl); (case hi => rfl); (case hT => exact Try.underlying22); (case hE => intro w; kernel_rfl); (case hlo => first | exact .inr rfl | exact .inl ⟨rfl, rfl⟩); (case hhi => first | exact .inr rfl | exact .inl ⟨rfl, rfl⟩); (case h1 => first | omega | (simp; omega)); (case h2 => first | omega | (simp; omega)); clear S; intro az nz cz hnz S)
              | ((with_reducible apply wps_appends elem_Ev ecells eone (by decide) S 3 (j := 0)); (case hx => rfl); (case hy => rfl); (case hi => rfl); (case hj => rfl); (case hl => first | omega | (simp; omega)); clear S; intro az nz cz wz hnz S; simp only [List.set_cons_succ, List.set_cons_zero] at S)
              | ((with_reducible refine tot_done ?ht ?_); (case ht => kernel_rfl))
              | ((with_reducible apply wps_text S); (case hm => kernel_rfl); (case hB => decide +kernel); clear S; intro wz S)
              | ((with_reducible apply wps_loada (T := 28) (k := 4) S 0); (case hx => rfl); (case hi => rfl); (case hT => decide +kernel); (case hk => exact Nat.le_of_ble_eq_true rfl))
              | ((with_reducible apply wps_loada (T := 30) (k := 7) S 0); (case hx => rfl); (case hi => rfl); (case hT => decide +kernel); (case hk => exact Nat.le_of_ble_eq_true rfl))
            have HE : Hid ([] ++ (out.take k).drop 0 ++ [x] ++ (out.take out.length).drop k = sortE (l.take (i + 1))) := by
              rw [HS.out, HG.out, List.take_length]; simp [Hid]
            rw [HE.out] at S
            go_roundw
            case rel => exact ⟨i + 1, by omega, by go_num, S.pick [3, 5] rfl⟩
            case measure => first | (simp [intOf]; done) | (simp [intOf]; omega)
        · obtain rfl : k = out.length := by omega
          have HG := goal_ (.inl rfl)
          clear goal_ hall
          replace S := S.nil 30 Event.cells 7
          generalize hkk : out.length = k at *
          go_wp2_with first
            | go_skip
            | ((with_reducible refine wpList_skip ?hw ?_); (case hw => with_unfolding_all rfl); simp only [Act.put, List.setIfInBounds_toArray, List.set_cons_succ, List.set_cons_zero])
            | ((with_reducible apply wps_slice (E := 30) S 1 (l := 0) (u := k)); (case hx => rfl); (case hi => rfl); (case hT => exact Try.underlying22); (case hE => intro w; kernel_rfl); (case hlo => first | exact .inr rfl | exact .inl ⟨rfl, rfl⟩); (case hhi => first | exact .inr rfl | exact .inl ⟨rfl, rfl⟩); (case h1 => first | omega | (simp; omega)); (case h2 => first | omega | (simp; omega)); clear S; intro az nz cz hnz S)
            | ((with_reducible apply wps_appends elem_Ev ecells eone (by decide) S 1 (j := 0)); (case hx => rfl); (case hy => rfl); (case hi => rfl); (case hj => rfl); (case hl => first | omega | (simp; omega)); clear S; intro az nz cz wz hnz S; simp only [List.set_cons_succ, List.set_cons_zero] at S)
            | ((with_reducible apply wps_loada_el S 3 (hj := Hx.out) (q := 0) (vs := [.int .i64 x.key.at_, .int .i64 x.key.src, .int .i64 x.key.sent, .int .i64 x.key.no, .int .i64 x.dst, .int .i64 x.kind, .int .i64 x.data]) (m := 7)); (case hx => rfl); (case hT => decide +kernel); (case hi => rfl); (case hn => omega); (case hm => rfl); (case hv => rfl))
            | ((with_reducible apply wps_loada_el S 3 (hj := Hx.out) (q := 0) (vs := [.int .i64 x.key.at_, .int .i64 x.key.src, .int .i64 x.key.sent, .int .i64 x.key.no]) (m := 4)); (case hx => rfl); (case hT => decide +kernel); (case hi => rfl); (case hn => omega); (case hm => rfl); (case hv => rfl))
            | ((with_reducible apply wps_build1a (T := 22) (E := 30) S); (case hx => rfl); (case hr => intro w; kernel_rfl); clear S; intro bz wz S)
            | ((with_reducible apply wps_append1 elem_Ev ecells eone (by decide) S 2 (j := 0) (e := x)); (case hx => rfl); (case hy => rfl); (case hi => rfl); (case hj => rfl); (case he => rfl); (case hl => first | omega | (simp; omega)); clear S; intro az nz cz wz hnz S; simp only [List.set_cons_succ, List.set_cons_zero] at S)
            | ((with_reducible apply wps_slice (E := 30) S 3 (l := k) (u := k)); (case hx => rfl); (case hi => rfl); (case hT => exact Try.underlying22); (case hE => intro w; kernel_rfl); (case hlo => first | exact .inr rfl | exact .inl ⟨rfl, rfl⟩); (case hhi => first | exact .inr rfl | exact .inl ⟨rfl, rfl⟩); (case h1 => first | omega | (simp; omega)); (case h2 => first | omega | (simp; omega)); clear S; intro az nz cz hnz S)
            | ((with_reducible apply wps_appends elem_Ev ecells eone (by decide) S 3 (j := 0)); (case hx => rfl); (case hy => rfl); (case hi => rfl); (case hj => rfl); (case hl => first | omega | (simp; omega)); clear S; intro az nz cz wz hnz S; simp only [List.set_cons_succ, List.set_cons_zero] at S)
            | ((with_reducible refine tot_done ?ht ?_); (case ht => kernel_rfl))
            | ((with_reducible apply wps_text S); (case hm => kernel_rfl); (case hB => decide +kernel); clear S; intro wz S)
            | ((with_reducible apply wps_loada (T := 28) (k := 4) S 0); (case hx => rfl); (case hi => rfl); (case hT => decide +kernel); (case hk => exact Nat.le_of_ble_eq_true rfl))
            | ((with_reducible apply wps_loada (T := 30) (k := 7) S 0); (case hx => rfl); (case hi => rfl); (case hT => decide +kernel); (case hk => exact Nat.le_of_ble_eq_true rfl))
          have HE : Hid ([] ++ (out.take k).drop 0 ++ [x] ++ (out.take k).drop k = sortE (l.take (i + 1))) := by
            rw [HS.out, HG.out, List.take_of_length_le (by omega : out.length ≤ k)]; simp [Hid]
          rw [HE.out] at S
          go_roundw
          case rel => exact ⟨i + 1, by omega, by go_num, S.pick [3, 5] rfl⟩
          case measure => first | (simp [intOf]; done) | (simp [intOf]; omega)
    · obtain rfl : i = l.length := by omega
      rw [List.take_length] at S
      obtain ⟨F0, hF0⟩ := S.get (i := 0) rfl
      obtain ⟨ad0, c0, rfl⟩ := hF0.1.form
      clear hF0
      rw [sortE_len] at S
      rw [sortE_len]
      go_wp2_with first
        | go_skip
        | ((with_reducible refine wpList_skip ?hw ?_); (case hw => with_unfolding_all rfl); simp only [Act.put, List.setIfInBounds_toArray, List.set_cons_succ, List.set_cons_zero])
        | ((with_reducible refine tot_done ?ht ?_); (case ht => kernel_rfl))
        | ((with_reducible apply wps_text S); (case hm => kernel_rfl); (case hB => decide +kernel); clear S; intro wz S)
        | ((with_reducible apply wps_loada (T := 28) (k := 4) S 0); (case hx => rfl); (case hi => rfl); (case hT => decide +kernel); (case hk => exact Nat.le_of_ble_eq_true rfl))
        | ((with_reducible apply wps_loada (T := 30) (k := 7) S 0); (case hx => rfl); (case hi => rfl); (case hT => decide +kernel); (case hk => exact Nat.le_of_ble_eq_true rfl))
      go_ret
      exact ⟨_, _, rfl, S.pick [0] rfl⟩
end Go.Proofs.Ytcbdacmdmaoegaa

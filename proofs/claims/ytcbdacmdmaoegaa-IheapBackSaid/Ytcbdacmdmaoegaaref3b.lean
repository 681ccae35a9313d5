import Derived.Test.Ytcbdacmdmaoegaaref3
namespace Go.Proofs.Ytcbdacmdmaoegaa
open Go.RowKit Reg Mem

abbrev intE : Int → List Value := tE
theorem intE_len : ∀ x, (intE x).length = 1 := fun _ => rfl
theorem intE_one : ∀ x, ∀ u ∈ intE x, u.oneCell' = true := tEone
set_option maxRecDepth 100000 in
theorem elem_Int : Elem Try.prog 61 3 1 8 := ⟨_, .int .i64 0, Try.underlying61, rfl, by kernel_rfl, by kernel_rfl, by kernel_rfl, by kernel_rfl, by omega⟩
theorem filter_erase {ts : List Row} (hd : (ts.map (·.key)).Nodup) {j : Nat} {x : Row} (hx : ts[j]? = some x) : ts.take j ++ ts.drop (j + 1) = pulled ts x.key := by
  unfold pulled
  induction ts generalizing j with
  | nil => simp at hx
  | cons a l ih =>
    rw [List.map_cons, List.nodup_cons] at hd
    cases j with
    | zero =>
      simp at hx; subst hx
      rw [List.filter_cons_of_neg (by simp), List.filter_eq_self.2]
      · simp
      · intro y hy
        simp only [decide_eq_true_eq]
        exact fun e => hd.1 (List.mem_map.2 ⟨y, hy, e⟩)
    | succ j =>
      simp at hx
      have hne : a.key ≠ x.key := fun e => hd.1 (List.mem_map.2 ⟨x, List.mem_of_getElem? hx, e.symm⟩)
      rw [List.filter_cons_of_pos (by simpa using hne), ← ih hd.2 hx]
      simp
def RPullPost (F : Nat → Prop) (B : Nat) (ts : List Row) (k : Key) (w : World) (e : Ending) (w' : World) : Prop := e = .returned (foundVal ts k) ∧ St F w w' [refH false B (pulled ts k)]
set_option maxHeartbeats 2000000 in
set_option maxRecDepth 100000 in
theorem rpull_calls (B : Nat) (ts : List Row) (a b c d : Int) (w : World) (F : Nat → Prop) (h : (refH false B ts).at_ w F) (hn : ts.length ≤ 65536) (hd : (ts.map (·.key)).Nodup) :
    Calls Try.prog 42 #[.pointer (some ⟨B, 0, none⟩), .agg #[.int .i64 a, .int .i64 b, .int .i64 c, .int .i64 d]] w (RPullPost F B ts ⟨a, b, c, d⟩ w) := by
  have S := St.one w h
  have Hd := Lib.hid hd
  clear hd
  by_cases hin : (⟨a, b, c, d⟩ : Key) ∈ ts.map (·.key)
  · obtain ⟨x, hx, hxk⟩ := List.mem_map.1 hin
    obtain ⟨j, hj, hjx⟩ := List.mem_iff_getElem.1 hx
    have hjx2 : ts[j]? = some x := by rw [List.getElem?_eq_getElem hj, hjx]
    have hp : rAt ts ⟨a, b, c, d⟩ = j := by
      refine rAt_at hjx2 hxk fun q r hq hr e => ?_
      obtain ⟨hq1, hq2⟩ := List.getElem?_eq_some_iff.1 hr
      have h1 : (ts.map (·.key))[q]'(by simpa using hq1) = (ts.map (·.key))[j]'(by simpa using hj) := by
        simp only [List.getElem_map, hq2, hjx]; exact e.trans hxk.symm
      have := (List.getElem_inj Hd.out).1 h1
      omega
    have hfe := filter_erase Hd.out hjx2
    rw [hxk] at hfe
    have hfv : foundVal ts ⟨a, b, c, d⟩ = .tuple #[.int .i64 x.v, .int .i64 0] := by
      have := find_key hx Hd.out
      rw [hxk] at this
      simp [foundVal, this]
    have hj1 : (j : Int) < ts.length := by omega
    have hj2 : (j : Int) ≤ 65536 := by omega
    clear hin hx hxk hjx
    have Hjx2 := Lib.hid hjx2
    have Hp := Lib.hid hp
    have Hfe := Lib.hid hfe
    have Hfv := Lib.hid hfv
    clear hjx2 hp hfe hfv
    go_enter Try.func42, Try.ntmps42
    go_wp2_with first
      | ((with_reducible refine tot_done ?ht ?_); (case ht => kernel_rfl))
      | ((with_reducible apply wps_boxa S); (case hx => rfl); clear S; intro bz wz S)
      | ((with_reducible apply wps_box1 (v := .int _ _) S); (case hx => rfl); (case h1 => rfl); clear S; intro bz wz S)
      | ((with_reducible apply wps_box1 (v := .bool _) S); (case hx => rfl); (case h1 => rfl); clear S; intro bz wz S)
      | ((with_reducible apply wps_box1 (v := .slice _ _ _) S); (case hx => rfl); (case h1 => rfl); clear S; intro bz wz S)
      | ((with_reducible apply wps_box1 (v := .pointer _) S); (case hx => rfl); (case h1 => rfl); clear S; intro bz wz S)
      | ((with_reducible apply wps_box1 (v := .map _) S); (case hx => rfl); (case h1 => rfl); clear S; intro bz wz S)
      | ((with_reducible apply wps_box1 (v := .string _) S); (case hx => rfl); (case h1 => rfl); clear S; intro bz wz S)
      | ((with_reducible apply wps_box1 (v := .func _ _ _) S); (case hx => rfl); (case h1 => rfl); clear S; intro bz wz S)
      | ((with_reducible apply wps_load S 0); (case hx => rfl); (case hi => rfl); (case hT => decide +kernel); (case hu => rfl))
      | ((with_reducible apply wps_loada (T := 28) (k := 4) S 0); (case hx => rfl); (case hi => rfl); (case hT => decide +kernel); (case hk => exact Nat.le_of_ble_eq_true rfl))
      | ((with_reducible apply wps_load S 1); (case hx => rfl); (case hi => rfl); (case hT => decide +kernel); (case hu => rfl))
      | ((with_reducible apply wps_loada (T := 28) (k := 4) S 1); (case hx => rfl); (case hi => rfl); (case hT => decide +kernel); (case hk => exact Nat.le_of_ble_eq_true rfl))
      | ((with_reducible apply wps_load S 2); (case hx => rfl); (case hi => rfl); (case hT => decide +kernel); (case hu => rfl))
      | ((with_reducible apply wps_loada (T := 28) (k := 4) S 2); (case hx => rfl); (case hi => rfl); (case hT => decide +kernel); (case hk => exact Nat.le_of_ble_eq_true rfl))
      | ((with_reducible apply wps_load S 3); (case hx => rfl); (case hi => rfl); (case hT => decide +kernel); (case hu => rfl))
      | ((with_reducible apply wps_loada (T := 28) (k := 4) S 3); (case hx => rfl); (case hi => rfl); (case hT => decide +kernel); (case hk => exact Nat.le_of_ble_eq_true rfl))
    refine Calls.mono (at_calls _ _ _ _ _ _ _ _ (S.get (i := 1) rfl).choose_spec (by omega)) ?_
    rintro e wz ⟨rfl, hE⟩
    replace S := S.ext (Keep.of_below hE)
    clear hE
    rw [Hp.out]
    replace S := S.pick [1, 0] rfl
    simp only [pick, nth] at S
    obtain ⟨v0, S⟩ := S.open_exs (fun _ => rfl)
    replace S := (S.open_sep rfl rfl).nil 57 Row.cells 5
    obtain ⟨ad, cp, rfl, _⟩ := (S.sl 2 rfl).elim fun _ h => h.form
    obtain ⟨R, o, rfl⟩ : ∃ R o, ad = some ⟨R, o, none⟩ := (S.sl 2 rfl).elim fun F h => h.head (by omega)
    replace S := S.slshare 2 rfl
    simp only [List.set_cons_succ, List.set_cons_zero] at S
    go_wp2_with first
      | ((with_reducible apply wps_loada_el S 2 (hj := Hjx2.out) (q := 0) (vs := [.int .i64 x.key.at_, .int .i64 x.key.src, .int .i64 x.key.sent, .int .i64 x.key.no]) (m := 4)); (case hx => rfl); (case hT => decide +kernel); (case hi => rfl); (case hn => omega); (case hm => rfl); (case hv => rfl))
      | ((with_reducible apply wps_load_el S 2 (hj := Hjx2.out) (q := 4) (u := .int .i64 x.v)); (case hx => rfl); (case hi => rfl); (case hn => omega); (case hT => decide +kernel); (case hu => rfl))
      | ((with_reducible apply wps_slice (E := 57) S 2 (l := 0) (u := j)); (case hx => rfl); (case hi => rfl); (case hT => exact Try.underlying40); (case hE => intro w; kernel_rfl); (case hlo => first | exact .inr rfl | exact .inl ⟨rfl, rfl⟩); (case hhi => first | exact .inr rfl | exact .inl ⟨rfl, rfl⟩); (case h1 => first | omega | (simp; omega)); (case h2 => first | omega | (simp; omega)); clear S; intro az nz cz hnz S)
      | ((with_reducible apply wps_appends elem_Thing rcells rone (by decide) S 1 (j := 0)); (case hx => rfl); (case hy => rfl); (case hi => rfl); (case hj => rfl); (case hl => first | omega | (simp; omega)); clear S; intro az nz cz wz hnz S; simp only [List.set_cons_succ, List.set_cons_zero] at S)
      | ((with_reducible apply wps_slice (E := 57) S 3 (l := (j+1)) (u := ts.length)); (case hx => rfl); (case hi => rfl); (case hT => exact Try.underlying40); (case hE => intro w; kernel_rfl); (case hlo => first | exact .inr rfl | exact .inl ⟨rfl, rfl⟩); (case hhi => first | exact .inr rfl | exact .inl ⟨rfl, rfl⟩); (case h1 => first | omega | (simp; omega)); (case h2 => first | omega | (simp; omega)); clear S; intro az nz cz hnz S)
      | ((with_reducible apply wps_appends elem_Thing rcells rone (by decide) S 2 (j := 0)); (case hx => rfl); (case hy => rfl); (case hi => rfl); (case hj => rfl); (case hl => first | omega | (simp; omega)); clear S; intro az nz cz wz hnz S; simp only [List.set_cons_succ, List.set_cons_zero] at S)
      | ((with_reducible apply wps_store (u := (.slice az nz cz)) S 3); (case hx => rfl); (case hy => rfl); (case hi => rfl); (case hT => decide +kernel); (case h1 => rfl); (case hn => exact Nat.le_of_ble_eq_true rfl); clear S; intro wz S; simp only [List.set_cons_succ, List.set_cons_zero, List.setIfInBounds_toArray] at S)
      | ((with_reducible refine tot_done ?ht ?_); (case ht => kernel_rfl))
      | ((with_reducible apply wps_load S 0); (case hx => rfl); (case hi => rfl); (case hT => decide +kernel); (case hu => rfl))
      | ((with_reducible apply wps_loada (T := 28) (k := 4) S 0); (case hx => rfl); (case hi => rfl); (case hT => decide +kernel); (case hk => exact Nat.le_of_ble_eq_true rfl))
      | ((with_reducible apply wps_load S 1); (case hx => rfl); (case hi => rfl); (case hT => decide +kernel); (case hu => rfl))
      | ((with_reducible apply wps_loada (T := 28) (k := 4) S 1); (case hx => rfl); (case hi => rfl); (case hT => decide +kernel); (case hk => exact Nat.le_of_ble_eq_true rfl))
      | ((with_reducible apply wps_load S 2); (case hx => rfl); (case hi => rfl); (case hT => decide +kernel); (case hu => rfl))
      | ((with_reducible apply wps_loada (T := 28) (k := 4) S 2); (case hx => rfl); (case hi => rfl); (case hT => decide +kernel); (case hk => exact Nat.le_of_ble_eq_true rfl))
      | ((with_reducible apply wps_load S 3); (case hx => rfl); (case hi => rfl); (case hT => decide +kernel); (case hu => rfl))
      | ((with_reducible apply wps_loada (T := 28) (k := 4) S 3); (case hx => rfl); (case hi => rfl); (case hT => decide +kernel); (case hk => exact Nat.le_of_ble_eq_true rfl))
    refine bodyPost_ret (results_tmp2 rfl _ _ _) rfl ⟨Hfv.out.symm ▸ rfl, ?_⟩
    replace S := S.pick [3, 2] rfl
    simp only [pick, nth] at S
    replace S := ((S.freeze false 1 rcells rfl).close_sep rfl rfl).close_exs (A := fun v => sep false (Blk false B #[v] 42) (Sl false Row.cells 5 v _)) _ rfl
    rw [← Hfe.out]
    simp only [List.take_length, List.drop_zero, List.nil_append] at S
    exact S
  · have hp := rAt_neg hin
    have hfv : foundVal ts ⟨a, b, c, d⟩ = .tuple #[.int .i64 0, .int .i64 14] := by simp [foundVal, find_none hin]
    have hpl : pulled ts ⟨a, b, c, d⟩ = ts := by
      unfold pulled
      rw [List.filter_eq_self]
      intro y hy
      simp only [decide_eq_true_eq]
      exact fun e => hin (List.mem_map.2 ⟨y, hy, e⟩)
    clear hin
    have Hp := Lib.hid hp
    have Hfv := Lib.hid hfv
    have Hpl := Lib.hid hpl
    clear hp hfv hpl
    go_enter Try.func42, Try.ntmps42
    go_wp2_with first
      | ((with_reducible refine tot_done ?ht ?_); (case ht => kernel_rfl))
      | ((with_reducible apply wps_boxa S); (case hx => rfl); clear S; intro bz wz S)
      | ((with_reducible apply wps_box1 (v := .int _ _) S); (case hx => rfl); (case h1 => rfl); clear S; intro bz wz S)
      | ((with_reducible apply wps_box1 (v := .bool _) S); (case hx => rfl); (case h1 => rfl); clear S; intro bz wz S)
      | ((with_reducible apply wps_box1 (v := .slice _ _ _) S); (case hx => rfl); (case h1 => rfl); clear S; intro bz wz S)
      | ((with_reducible apply wps_box1 (v := .pointer _) S); (case hx => rfl); (case h1 => rfl); clear S; intro bz wz S)
      | ((with_reducible apply wps_box1 (v := .map _) S); (case hx => rfl); (case h1 => rfl); clear S; intro bz wz S)
      | ((with_reducible apply wps_box1 (v := .string _) S); (case hx => rfl); (case h1 => rfl); clear S; intro bz wz S)
      | ((with_reducible apply wps_box1 (v := .func _ _ _) S); (case hx => rfl); (case h1 => rfl); clear S; intro bz wz S)
      | ((with_reducible apply wps_load S 0); (case hx => rfl); (case hi => rfl); (case hT => decide +kernel); (case hu => rfl))
      | ((with_reducible apply wps_loada (T := 28) (k := 4) S 0); (case hx => rfl); (case hi => rfl); (case hT => decide +kernel); (case hk => exact Nat.le_of_ble_eq_true rfl))
      | ((with_reducible apply wps_load S 1); (case hx => rfl); (case hi => rfl); (case hT => decide +kernel); (case hu => rfl))
      | ((with_reducible apply wps_loada (T := 28) (k := 4) S 1); (case hx => rfl); (case hi => rfl); (case hT => decide +kernel); (case hk => exact Nat.le_of_ble_eq_true rfl))
      | ((with_reducible apply wps_load S 2); (case hx => rfl); (case hi => rfl); (case hT => decide +kernel); (case hu => rfl))
      | ((with_reducible apply wps_loada (T := 28) (k := 4) S 2); (case hx => rfl); (case hi => rfl); (case hT => decide +kernel); (case hk => exact Nat.le_of_ble_eq_true rfl))
      | ((with_reducible apply wps_load S 3); (case hx => rfl); (case hi => rfl); (case hT => decide +kernel); (case hu => rfl))
      | ((with_reducible apply wps_loada (T := 28) (k := 4) S 3); (case hx => rfl); (case hi => rfl); (case hT => decide +kernel); (case hk => exact Nat.le_of_ble_eq_true rfl))
    refine Calls.mono (at_calls _ _ _ _ _ _ _ _ (S.get (i := 1) rfl).choose_spec (by omega)) ?_
    rintro e wz ⟨rfl, hE⟩
    replace S := S.ext (Keep.of_below hE)
    clear hE
    rw [Hp.out]
    go_wp2_with first
      | ((with_reducible refine tot_done ?ht ?_); (case ht => kernel_rfl))
      | ((with_reducible apply wps_load S 0); (case hx => rfl); (case hi => rfl); (case hT => decide +kernel); (case hu => rfl))
      | ((with_reducible apply wps_loada (T := 28) (k := 4) S 0); (case hx => rfl); (case hi => rfl); (case hT => decide +kernel); (case hk => exact Nat.le_of_ble_eq_true rfl))
      | ((with_reducible apply wps_load S 1); (case hx => rfl); (case hi => rfl); (case hT => decide +kernel); (case hu => rfl))
      | ((with_reducible apply wps_loada (T := 28) (k := 4) S 1); (case hx => rfl); (case hi => rfl); (case hT => decide +kernel); (case hk => exact Nat.le_of_ble_eq_true rfl))
      | ((with_reducible apply wps_load S 2); (case hx => rfl); (case hi => rfl); (case hT => decide +kernel); (case hu => rfl))
      | ((with_reducible apply wps_loada (T := 28) (k := 4) S 2); (case hx => rfl); (case hi => rfl); (case hT => decide +kernel); (case hk => exact Nat.le_of_ble_eq_true rfl))
      | ((with_reducible apply wps_load S 3); (case hx => rfl); (case hi => rfl); (case hT => decide +kernel); (case hu => rfl))
      | ((with_reducible apply wps_loada (T := 28) (k := 4) S 3); (case hx => rfl); (case hi => rfl); (case hT => decide +kernel); (case hk => exact Nat.le_of_ble_eq_true rfl))
    refine bodyPost_ret (results_tmp2 rfl _ _ _) rfl ⟨Hfv.out.symm ▸ rfl, ?_⟩
    rw [Hpl.out]
    exact S.pick [1] rfl
theorem rbatch_none (B : Nat) (w : World) (F : Nat → Prop) (h : (refH false B []).at_ w F) :
    Calls Try.prog 43 #[.pointer (some ⟨B, 0, none⟩)] w fun e w' => e = .returned (.tuple #[.int .i64 0, .slice none 0 0, .int .i64 14]) ∧ Below w.heap.size w w' := by
  have S : St (fun _ => False) w w [refH true B []] := (St.init _ w).share rfl rfl h
  obtain ⟨v, S⟩ := S.open_exs (fun _ => rfl)
  replace S := S.open_sep rfl rfl
  obtain ⟨ad, cp, rfl, _⟩ := (S.sl 1 rfl).elim fun _ h => h.form
  simp only [List.length_nil] at S
  go_enter Try.func43, Try.ntmps43
  go_wp2_with first
    | go_skip
    | ((with_reducible refine wpList_skip ?hw ?_); (case hw => with_unfolding_all rfl); simp only [Act.put, List.setIfInBounds_toArray, List.set_cons_succ, List.set_cons_zero])
    | ((with_reducible refine tot_done ?ht ?_); (case ht => kernel_rfl))
    | ((with_reducible apply wps_load S 0); (case hx => rfl); (case hi => rfl); (case hT => decide +kernel); (case hu => rfl))
    | ((with_reducible apply wps_load S 1); (case hx => rfl); (case hi => rfl); (case hT => decide +kernel); (case hu => rfl))
    | ((with_reducible apply wps_load S 2); (case hx => rfl); (case hi => rfl); (case hT => decide +kernel); (case hu => rfl))
    | ((with_reducible apply wps_load S 3); (case hx => rfl); (case hi => rfl); (case hT => decide +kernel); (case hu => rfl))
  go_ret3
  exact ⟨rfl, S.below⟩
theorem tw_at {α : Type} {p : α → Bool} {ts : List α} {j : Nat} (h : ∀ (q : Nat) x, q < j → ts[q]? = some x → p x = true) (h2 : ∀ x, ts[j]? = some x → p x = false) : ts.takeWhile p = ts.take j ∧ ts.dropWhile p = ts.drop j := by
  induction ts generalizing j with
  | nil => simp
  | cons a l ih =>
    cases j with
    | zero => have := h2 a rfl; simp [this]
    | succ j =>
      have ha := h 0 a (by omega) rfl
      have := ih (j := j) (fun q x hq hx => h (q + 1) x (by omega) (by simpa using hx)) (fun x hx => h2 x (by simpa using hx))
      simp [ha, this]
def RBatRel (F : Nat → Prop) (B : Nat) (v : Value) (ts : List Row) (t : Int) (w : World) (out i : Value) (wr : World) : Prop :=
  ∃ j : Nat, j ≤ ts.length ∧ i = .int .i64 j ∧ (∀ (q : Nat) r, q < j → ts[q]? = some r → same_at t r = true) ∧
    St F w wr [Mem.Own 3 intE 1 out ((ts.take j).map (·.v)), Blk false B #[v] 42, Sl false Row.cells 5 v ts]
def RBatPost (F : Nat → Prop) (B : Nat) (ts : List Row) (t : Int) (w : World) (e : Ending) (w' : World) : Prop :=
  ∃ v, e = .returned (.tuple #[.int .i64 t, v, .int .i64 0]) ∧ St F w w' [Mem.Own 3 intE 1 v ((ts.takeWhile (same_at t)).map (·.v)), refH false B (ts.dropWhile (same_at t))]
set_option maxHeartbeats 2000000 in
set_option maxRecDepth 100000 in
theorem rbatch_some (B : Nat) (r : Row) (rest : List Row) (w : World) (F : Nat → Prop) (h : (refH false B (r :: rest)).at_ w F) (hn : (r :: rest).length ≤ 65536) :
    Calls Try.prog 43 #[.pointer (some ⟨B, 0, none⟩)] w (RBatPost F B (r :: rest) r.key.at_ w) := by
  have S := St.one w h
  obtain ⟨v, S⟩ := S.open_exs (fun _ => rfl)
  replace S := (S.open_sep rfl rfl).nil 3 intE 1
  obtain ⟨ad, cp, rfl, _⟩ := (S.sl 2 rfl).elim fun _ h => h.form
  obtain ⟨R, o, rfl⟩ : ∃ R o, ad = some ⟨R, o, none⟩ := (S.sl 2 rfl).elim fun F h => h.head (by simp)
  have hr0 : (r :: rest)[0]? = some r := rfl
  have hl0 : 0 < (r :: rest).length := by simp
  generalize htt : r.key.at_ = t
  generalize hts : r :: rest = ts at *
  have hl1 : (0 : Int) < ts.length := by omega
  have hl2 : ((ts.length : Int) == 0) = false := beq_eq_false_iff_ne.2 (by omega)
  have Hr0 := Lib.hid hr0
  have Htt := Lib.hid htt
  have Hts := Lib.hid hts
  clear hr0 htt hts
  have Ht2 := Htt
  go_enter Try.func43, Try.ntmps43
  go_wp2_with first
    | go_skip
    | ((with_reducible refine wpList_skip ?hw ?_); (case hw => with_unfolding_all rfl); simp only [Act.put, List.setIfInBounds_toArray, List.set_cons_succ, List.set_cons_zero])
    | ((with_reducible apply wps_load_el S 2 (hj := Hr0.out) (q := 0) (u := .int .i64 r.key.at_)); (case hx => rfl); (case hi => rfl); (case hn => omega); (case hT => decide +kernel); (case hu => rfl))
    | ((with_reducible apply wps_load_el S 2 (hj := Hr0.out) (q := 4) (u := .int .i64 r.v)); (case hx => rfl); (case hi => rfl); (case hn => omega); (case hT => decide +kernel); (case hu => rfl))
    | ((with_reducible refine tot_done ?ht ?_); (case ht => kernel_rfl))
    | ((with_reducible apply wps_load S 0); (case hx => rfl); (case hi => rfl); (case hT => decide +kernel); (case hu => rfl))
    | ((with_reducible apply wps_load S 1); (case hx => rfl); (case hi => rfl); (case hT => decide +kernel); (case hu => rfl))
    | ((with_reducible apply wps_load S 2); (case hx => rfl); (case hi => rfl); (case hT => decide +kernel); (case hu => rfl))
    | ((with_reducible apply wps_load S 3); (case hx => rfl); (case hi => rfl); (case hT => decide +kernel); (case hu => rfl))
  rw [Htt.out]
  go_loopw [6, 7] (fun out i wr => RBatRel F B _ ts t w out i wr) (fun _ i _ => ts.length - (intOf i).toNat)
  case atStart => exact ⟨0, Nat.zero_le _, rfl, fun q r h => by omega, S⟩
  case round =>
    clear S
    obtain ⟨j, hj, rfl, hlt, S⟩ := hrel
    have Hlt := Lib.hid hlt
    clear hlt
    have hjl : ((ts.take j).map (·.v)).length ≤ 65536 := by rw [List.length_map, List.length_take]; omega
    have fin : (∀ x, ts[j]? = some x → same_at t x = false) → Hid (ts.takeWhile (same_at t) = ts.take j ∧ ts.dropWhile (same_at t) = ts.drop j) := fun h => tw_at Hlt.out h
    by_cases hjn : j < ts.length
    · obtain ⟨x, hx⟩ : ∃ x, ts[j]? = some x := ⟨_, List.getElem?_eq_getElem hjn⟩
      have hjn2 : (j : Int) < ts.length := by omega
      cases hk : same_at t x with
      | true =>
        have hk2 : (x.key.at_ == t) = true := hk
        clear fin
        have Hx := Lib.hid hx
        have Hk := Lib.hid hk
        clear hx hk
        go_wp2_with first
          | go_skip
          | ((with_reducible refine wpList_skip ?hw ?_); (case hw => with_unfolding_all rfl); simp only [Act.put, List.setIfInBounds_toArray, List.set_cons_succ, List.set_cons_zero])
          | ((with_reducible apply wps_load_el S 2 (hj := Hx.out) (q := 0) (u := .int .i64 x.key.at_)); (case hx => rfl); (case hi => rfl); (case hn => omega); (case hT => decide +kernel); (case hu => rfl))
          | ((with_reducible apply wps_load_el S 2 (hj := Hx.out) (q := 4) (u := .int .i64 x.v)); (case hx => rfl); (case hi => rfl); (case hn => omega); (case hT => decide +kernel); (case hu => rfl))
          | ((with_reducible apply wps_build11 (T := 61) (E := 3) S); (case hx => rfl); (case hr => intro w; kernel_rfl); clear S; intro bz wz S)
          | ((with_reducible apply wps_append1 elem_Int intE_len intE_one (by decide) S 1 (j := 0) (e := x.v)); (case hx => rfl); (case hy => rfl); (case hi => rfl); (case hj => rfl); (case he => rfl); (case hl => first | omega | (simp; omega)); clear S; intro az nz cz wz hnz S; simp only [List.set_cons_succ, List.set_cons_zero] at S)
          | ((with_reducible refine tot_done ?ht ?_); (case ht => kernel_rfl))
          | ((with_reducible apply wps_load S 0); (case hx => rfl); (case hi => rfl); (case hT => decide +kernel); (case hu => rfl))
          | ((with_reducible apply wps_load S 1); (case hx => rfl); (case hi => rfl); (case hT => decide +kernel); (case hu => rfl))
          | ((with_reducible apply wps_load S 2); (case hx => rfl); (case hi => rfl); (case hT => decide +kernel); (case hu => rfl))
          | ((with_reducible apply wps_load S 3); (case hx => rfl); (case hi => rfl); (case hT => decide +kernel); (case hu => rfl))
        go_roundw
        case rel =>
          refine ⟨j + 1, by omega, by go_num, fun q r hq hr => ?_, ?_⟩
          · by_cases e : q = j
            · subst e; rw [Hx.out] at hr; cases hr; exact Hk.out
            · exact Hlt.out q r (by omega) hr
          · rw [take_snoc Hx.out, List.map_append]; exact S.tail
        case measure => simp [intOf]; omega
      | false =>
        have hk2 : (x.key.at_ == t) = false := hk
        have HF := fin (fun y hy => by rw [hx] at hy; cases hy; exact hk)
        clear fin
        have Hx := Lib.hid hx
        have Hk := Lib.hid hk
        clear hx hk
        go_wp2_with first
          | go_skip
          | ((with_reducible refine wpList_skip ?hw ?_); (case hw => with_unfolding_all rfl); simp only [Act.put, List.setIfInBounds_toArray, List.set_cons_succ, List.set_cons_zero])
          | ((with_reducible apply wps_load_el S 2 (hj := Hx.out) (q := 0) (u := .int .i64 x.key.at_)); (case hx => rfl); (case hi => rfl); (case hn => omega); (case hT => decide +kernel); (case hu => rfl))
          | ((with_reducible apply wps_load_el S 2 (hj := Hx.out) (q := 4) (u := .int .i64 x.v)); (case hx => rfl); (case hi => rfl); (case hn => omega); (case hT => decide +kernel); (case hu => rfl))
          | ((with_reducible apply wps_slice' (E := 57) S 2 (l := j) (u := ts.length)); (case hx => rfl); (case hi => rfl); (case hT => exact Try.underlying40); (case hE => intro w; kernel_rfl); (case hlo => first | exact .inr rfl | exact .inl ⟨rfl, rfl⟩); (case hhi => first | exact .inr rfl | exact .inl ⟨rfl, rfl⟩); (case h1 => first | omega | (simp; omega)); (case h2 => first | omega | (simp; omega)); clear S; intro az nz cz hnz S; simp only [List.set_cons_succ, List.set_cons_zero] at S)
          | ((with_reducible apply wps_store (u := (.slice az nz cz)) S 1); (case hx => rfl); (case hy => rfl); (case hi => rfl); (case hT => decide +kernel); (case h1 => rfl); (case hn => exact Nat.le_of_ble_eq_true rfl); clear S; intro wz S; simp only [List.set_cons_succ, List.set_cons_zero, List.setIfInBounds_toArray] at S)
          | ((with_reducible refine tot_done ?ht ?_); (case ht => kernel_rfl))
          | ((with_reducible apply wps_load S 0); (case hx => rfl); (case hi => rfl); (case hT => decide +kernel); (case hu => rfl))
          | ((with_reducible apply wps_load S 1); (case hx => rfl); (case hi => rfl); (case hT => decide +kernel); (case hu => rfl))
          | ((with_reducible apply wps_load S 2); (case hx => rfl); (case hi => rfl); (case hT => decide +kernel); (case hu => rfl))
          | ((with_reducible apply wps_load S 3); (case hx => rfl); (case hi => rfl); (case hT => decide +kernel); (case hu => rfl))
        go_ret3
        refine ⟨_, rfl, ?_⟩
        rw [HF.out.1, HF.out.2]
        simp only [List.take_length] at S
        replace S := S.pick [1, 2, 0] rfl
        simp only [pick, nth] at S
        exact ((S.close_sep rfl rfl).close_exs (A := fun v => sep false (Blk false B #[v] 42) (Sl false Row.cells 5 v _)) _ rfl).pick [1, 0] rfl
    · obtain rfl : j = ts.length := by omega
      have HF := fin (fun y hy => by simp at hy)
      clear fin
      go_wp2_with first
        | go_skip
        | ((with_reducible refine wpList_skip ?hw ?_); (case hw => with_unfolding_all rfl); simp only [Act.put, List.setIfInBounds_toArray, List.set_cons_succ, List.set_cons_zero])
        | ((with_reducible apply wps_slice' (E := 57) S 2 (l := ts.length) (u := ts.length)); (case hx => rfl); (case hi => rfl); (case hT => exact Try.underlying40); (case hE => intro w; kernel_rfl); (case hlo => first | exact .inr rfl | exact .inl ⟨rfl, rfl⟩); (case hhi => first | exact .inr rfl | exact .inl ⟨rfl, rfl⟩); (case h1 => first | omega | (simp; omega)); (case h2 => first | omega | (simp; omega)); clear S; intro az nz cz hnz S; simp only [List.set_cons_succ, List.set_cons_zero] at S)
        | ((with_reducible apply wps_store (u := (.slice az nz cz)) S 1); (case hx => rfl); (case hy => rfl); (case hi => rfl); (case hT => decide +kernel); (case h1 => rfl); (case hn => exact Nat.le_of_ble_eq_true rfl); clear S; intro wz S; simp only [List.set_cons_succ, List.set_cons_zero, List.setIfInBounds_toArray] at S)
        | ((with_reducible refine tot_done ?ht ?_); (case ht => kernel_rfl))
        | ((with_reducible apply wps_load S 0); (case hx => rfl); (case hi => rfl); (case hT => decide +kernel); (case hu => rfl))
        | ((with_reducible apply wps_load S 1); (case hx => rfl); (case hi => rfl); (case hT => decide +kernel); (case hu => rfl))
        | ((with_reducible apply wps_load S 2); (case hx => rfl); (case hi => rfl); (case hT => decide +kernel); (case hu => rfl))
        | ((with_reducible apply wps_load S 3); (case hx => rfl); (case hi => rfl); (case hT => decide +kernel); (case hu => rfl))
      go_ret3
      refine ⟨_, rfl, ?_⟩
      rw [HF.out.1, HF.out.2, List.take_length]
      simp only [List.take_length] at S
      replace S := S.pick [1, 2, 0] rfl
      simp only [pick, nth] at S
      exact ((S.close_sep rfl rfl).close_exs (A := fun v => sep false (Blk false B #[v] 42) (Sl false Row.cells 5 v _)) _ rfl).pick [1, 0] rfl
set_option maxRecDepth 100000 in
theorem rcopy_calls (B : Nat) (ts : List Row) (w : World) (F : Nat → Prop) (h : (refH false B ts).at_ w F) (hn : ts.length ≤ 65536) :
    Calls Try.prog 25 #[.pointer (some ⟨B, 0, none⟩)] w fun e w' => ∃ C, e = .returned (.pointer (some ⟨C, 0, none⟩)) ∧ St (fun _ => False) w w' [refH false C ts] := by
  have S : St (fun _ => False) w w [refH true B ts] := (St.init _ w).share rfl rfl h
  obtain ⟨v, S⟩ := S.open_exs (fun _ => rfl)
  replace S := (S.open_sep rfl rfl).nil 57 Row.cells 5
  obtain ⟨ad, cp, rfl, _⟩ := (S.sl 2 rfl).elim fun _ h => h.form
  go_enter Try.func25, Try.ntmps25
  go_wp2_with first
    | ((with_reducible apply wps_appends elem_Thing rcells rone (by decide) S 1 (j := 3)); (case hx => rfl); (case hy => rfl); (case hi => rfl); (case hj => rfl); (case hl => first | omega | (simp; omega)); clear S; intro az nz cz wz hnz S; simp only [List.set_cons_succ, List.set_cons_zero] at S)
    | ((with_reducible apply wps_store (u := (.slice az nz cz)) S 0); (case hx => rfl); (case hy => rfl); (case hi => rfl); (case hT => decide +kernel); (case h1 => rfl); (case hn => exact Nat.le_of_ble_eq_true rfl); clear S; intro wz S; simp only [List.set_cons_zero, List.setIfInBounds_toArray] at S)
    | ((with_reducible refine tot_done ?ht ?_); (case ht => kernel_rfl))
    | ((with_reducible apply wps_text S); (case hm => kernel_rfl); (case hB => decide +kernel); clear S; intro wz S)
    | ((with_reducible apply wps_boxa S); (case hx => rfl); clear S; intro bz wz S)
    | ((with_reducible apply wps_box1 (v := .int _ _) S); (case hx => rfl); (case h1 => rfl); clear S; intro bz wz S)
    | ((with_reducible apply wps_box1 (v := .bool _) S); (case hx => rfl); (case h1 => rfl); clear S; intro bz wz S)
    | ((with_reducible apply wps_box1 (v := .slice _ _ _) S); (case hx => rfl); (case h1 => rfl); clear S; intro bz wz S)
    | ((with_reducible apply wps_box1 (v := .pointer _) S); (case hx => rfl); (case h1 => rfl); clear S; intro bz wz S)
    | ((with_reducible apply wps_box1 (v := .map _) S); (case hx => rfl); (case h1 => rfl); clear S; intro bz wz S)
    | ((with_reducible apply wps_box1 (v := .string _) S); (case hx => rfl); (case h1 => rfl); clear S; intro bz wz S)
    | ((with_reducible apply wps_box1 (v := .func _ _ _) S); (case hx => rfl); (case h1 => rfl); clear S; intro bz wz S)
    | ((with_reducible apply wps_load S 0); (case hx => rfl); (case hi => rfl); (case hT => decide +kernel); (case hu => rfl))
    | ((with_reducible apply wps_load S 1); (case hx => rfl); (case hi => rfl); (case hT => decide +kernel); (case hu => rfl))
    | ((with_reducible apply wps_load S 2); (case hx => rfl); (case hi => rfl); (case hT => decide +kernel); (case hu => rfl))
    | ((with_reducible apply wps_load S 3); (case hx => rfl); (case hi => rfl); (case hT => decide +kernel); (case hu => rfl))
  go_ret
  refine ⟨_, rfl, ?_⟩
  replace S := S.pick [0, 1] rfl
  simp only [pick, nth] at S
  exact ((S.freeze false 1 rcells rfl).close_sep rfl rfl).close_exs (A := fun v => sep false (Blk false _ #[v] 42) (Sl false Row.cells 5 v _)) _ rfl
end Go.Proofs.Ytcbdacmdmaoegaa

import Derived.Test.YtkcnbejpmknaoaaDoorW10
/- Things to do, as the machine holds them; the law's same and plain (chapter 21). -/
namespace Go.Proofs.YtkcnbejpmknaoaaDoor
open Go Go.RowKit Reg Mem

instance : DecidableEq DoE := fun a b => decidable_of_iff (a.what = b.what ∧ a.a = b.a ∧ a.b = b.b) (by cases a; cases b; simp)
def docell (d : DoE) : List Value := [.int .i64 d.what, .int .i64 d.a, .int .i64 d.b]
theorem docells : ∀ x, (docell x).length = 3 := fun _ => rfl
theorem doone : ∀ x, ∀ u ∈ docell x, u.oneCell' = true := fun x u hu => by
  simp only [docell, List.mem_cons, List.not_mem_nil, or_false] at hu; rcases hu with rfl | rfl | rfl <;> rfl
set_option maxRecDepth 100000 in
theorem elem_KD : Elem Tryd.prog 23 42 3 24 := ⟨_, .agg #[.int .i64 0, .int .i64 0, .int .i64 0], Tryd.underlying23, rfl, by kernel_rfl, by kernel_rfl, by kernel_rfl, by kernel_rfl, by omega⟩
set_option maxRecDepth 100000 in
theorem elem_RD : Elem Tryd.prog 27 39 3 24 := ⟨_, .agg #[.int .i64 0, .int .i64 0, .int .i64 0], Tryd.underlying27, rfl, by kernel_rfl, by kernel_rfl, by kernel_rfl, by kernel_rfl, by omega⟩
def DSmRel (v1 v2 : Value) (xs ys : List DoE) (w : World) (i : Value) (wr : World) : Prop :=
  ∃ j : Nat, j ≤ xs.length ∧ i = .int .i64 j ∧ Hid (∀ q : Nat, q < j → xs[q]? = ys[q]?) ∧ St (fun _ => False) w wr [Sl true docell 3 v1 xs, Sl true docell 3 v2 ys]
set_option maxRecDepth 100000 in
set_option maxHeartbeats 16000000 in
theorem dsame_calls (v1 v2 : Value) (xs ys : List DoE) (w : World) (F1 F2 : Nat → Prop) (h1 : (Sl true docell 3 v1 xs).at_ w F1) (h2 : (Sl true docell 3 v2 ys).at_ w F2) (hn : xs.length ≤ 65536) (hn2 : ys.length ≤ 65536) :
    Calls Tryd.prog 9 #[v1, v2] w fun r w' => r = .returned (.bool (decide (xs = ys))) ∧ Below w.heap.size w w' := by
  have S : St (fun _ => False) w w [Sl true docell 3 v1 xs, Sl true docell 3 v2 ys] := ((St.init _ w).share rfl rfl h2).share rfl rfl h1
  obtain ⟨ad1, c1, rfl, _⟩ := (S.sl 0 rfl).elim fun _ h => h.form
  obtain ⟨ad2, c2, rfl, _⟩ := (S.sl 1 rfl).elim fun _ h => h.form
  clear h1 h2
  go_enter Tryd.func9, Tryd.ntmps9
  by_cases hl : xs.length = ys.length
  · have hl2 : ((xs.length : Int) != ys.length) = false := by simp; omega
    have HL := Lib.hid hl
    clear hl
    go_wp2_with first | go_skip | ((with_reducible refine wpList_skip ?hw ?_); (case hw => with_unfolding_all rfl); simp only [Act.put, List.setIfInBounds_toArray, List.set_cons_succ, List.set_cons_zero]) | ((with_reducible refine tot_done ?ht ?_); (case ht => kernel_rfl)) | ((with_reducible apply wps_text S); (case hm => kernel_rfl); (case hB => decide +kernel); clear S; intro wz S) | ((with_reducible apply wps_load S 0); (case hx | hi | hu => rfl); (case hT => decide +kernel))
    go_loopw [5] (fun i wr => DSmRel (.slice ad1 xs.length c1) (.slice ad2 ys.length c2) xs ys w i wr) (fun i _ => xs.length - (intOf i).toNat)
    case atStart => exact ⟨0, Nat.zero_le _, rfl, fun q h => by omega, S⟩
    case round =>
      clear S
      obtain ⟨j, hj, rfl, He, S⟩ := hrel
      by_cases hlt : j < xs.length
      · obtain ⟨x, hx⟩ : ∃ x, xs[j]? = some x := ⟨_, List.getElem?_eq_getElem hlt⟩
        obtain ⟨y, hy⟩ : ∃ y, ys[j]? = some y := ⟨_, List.getElem?_eq_getElem (by have := HL.out; omega)⟩
        obtain ⟨R1, o1, rfl⟩ : ∃ R o, ad1 = some ⟨R, o, none⟩ := (S.sl 0 rfl).elim fun F h => h.head (by omega)
        obtain ⟨R2, o2, rfl⟩ : ∃ R o, ad2 = some ⟨R, o, none⟩ := (S.sl 1 rfl).elim fun F h => h.head (by have := HL.out; omega)
        have hlt2 : (j : Int) < xs.length := by omega
        have hlt3 : (j : Int) < ys.length := by have := HL.out; omega
        have hlt4 : j < ys.length := by have := HL.out; omega
        have HX := Lib.hid hx
        have HY := Lib.hid hy
        by_cases g1 : x.what = y.what
        · have k1 : (x.what != y.what) = false := by simp [g1]
          by_cases g2 : x.a = y.a
          · have k2 : (x.a != y.a) = false := by simp [g2]
            by_cases g3 : x.b = y.b
            · have k3 : (x.b != y.b) = false := by simp [g3]
              have He2 : Hid (∀ q : Nat, q < j + 1 → xs[q]? = ys[q]?) := by
                intro q hq
                by_cases h : q < j
                · exact He q h
                · obtain rfl : q = j := by omega
                  rw [hx, hy]; cases x; cases y; simp only at g1 g2 g3; subst g1 g2 g3; rfl
              clear hx hy g1 g2 g3 He
              go_wp2_with first | go_skip | ((with_reducible refine wpList_skip ?hw ?_); (case hw => with_unfolding_all rfl); simp only [Act.put, List.setIfInBounds_toArray, List.set_cons_succ, List.set_cons_zero]) | ((with_reducible refine tot_done ?ht ?_); (case ht => kernel_rfl)) | ((with_reducible apply wps_load S 0); (case hx | hi | hu => rfl); (case hT => decide +kernel)) | ((with_reducible apply wps_load S 1); (case hx | hi | hu => rfl); (case hT => decide +kernel))
              (refine wp_region_w (soft := [0, 1, 2, 3, 4, 5, 6, 7, 8, 9, 10, 11, 12, 13, 14, 15, 16, 17, 18, 19, 20, 21, 22, 23, 24, 25, 26, 27, 28, 29, 30, 31, 32, 33, 34, 35, 36]) S ?hm ?hB ?_); (case hm => kernel_rfl); (case hB => decide +kernel); clear S
              iterate 37
                (with_reducible apply softs_cons)
                (case hw =>
                  (with_reducible apply soft_of); (case hi => rfl)
                  intro T wz S
                  simp only [List.cons_append, List.nil_append] at S
                  go_wp2_with first | go_skip | ((with_reducible apply wps_load_el S 0 (hj := HX.out) (q := 0) (u := .int .i64 x.what)); (case hx | hi => rfl); (case hn => omega); (case hu => rfl); (case hT => decide +kernel)) | ((with_reducible apply wps_load_el S 1 (hj := HY.out) (q := 0) (u := .int .i64 y.what)); (case hx | hi => rfl); (case hn => omega); (case hu => rfl); (case hT => decide +kernel)) | ((with_reducible apply wps_load_el S 0 (hj := HX.out) (q := 1) (u := .int .i64 x.a)); (case hx | hi => rfl); (case hn => omega); (case hu => rfl); (case hT => decide +kernel)) | ((with_reducible apply wps_load_el S 1 (hj := HY.out) (q := 1) (u := .int .i64 y.a)); (case hx | hi => rfl); (case hn => omega); (case hu => rfl); (case hT => decide +kernel)) | ((with_reducible apply wps_load_el S 0 (hj := HX.out) (q := 2) (u := .int .i64 x.b)); (case hx | hi => rfl); (case hn => omega); (case hu => rfl); (case hT => decide +kernel)) | ((with_reducible apply wps_load_el S 1 (hj := HY.out) (q := 2) (u := .int .i64 y.b)); (case hx | hi => rfl); (case hn => omega); (case hu => rfl); (case hT => decide +kernel)) | ((with_reducible refine tot_done ?ht ?_); (case ht => kernel_rfl)) | ((with_reducible apply wps_load S 0); (case hx | hi | hu => rfl); (case hT => decide +kernel))
                  exact ⟨rfl, S⟩)
                (case hs => exact ⟨_, rfl, by kernel_rfl⟩)
              refine softs_nil ?_
              (with_reducible apply W_done); (case hn => rfl); (case hr => decide +kernel)
              intro wz S
              simp only [List.append_nil] at S
              go_wp2_with first | go_skip | ((with_reducible refine wpList_skip ?hw ?_); (case hw => with_unfolding_all rfl); simp only [Act.put, List.setIfInBounds_toArray, List.set_cons_succ, List.set_cons_zero]) | ((with_reducible refine tot_done ?ht ?_); (case ht => kernel_rfl)) | ((with_reducible apply wps_text S); (case hm => kernel_rfl); (case hB => decide +kernel); clear S; intro wz S) | ((with_reducible apply wps_load S 0); (case hx | hi | hu => rfl); (case hT => decide +kernel))
              go_roundw
              case rel => exact ⟨j + 1, by omega, by go_num, He2, S⟩
              case measure => first | (simp [intOf]; done) | (simp [intOf]; omega)
            · have k3 : (x.b != y.b) = true := by simp [g3]
              have HN : Hid (xs ≠ ys) := Lib.hid fun e => by rw [e, hy] at hx; cases hx; exact g3 rfl
              clear hx hy g1 g2 g3 He
              go_wp2_with first | go_skip | ((with_reducible refine wpList_skip ?hw ?_); (case hw => with_unfolding_all rfl); simp only [Act.put, List.setIfInBounds_toArray, List.set_cons_succ, List.set_cons_zero]) | ((with_reducible refine tot_done ?ht ?_); (case ht => kernel_rfl)) | ((with_reducible apply wps_load S 0); (case hx | hi | hu => rfl); (case hT => decide +kernel)) | ((with_reducible apply wps_load S 1); (case hx | hi | hu => rfl); (case hT => decide +kernel))
              (refine wp_region_w (soft := [0, 1, 2, 3, 4, 5, 6, 7, 8, 9, 10, 11, 12, 13, 14, 15, 16, 17, 18, 19, 20, 21, 22, 23, 24, 25, 26, 27, 28, 29, 30, 31, 32, 33, 34, 35, 36]) S ?hm ?hB ?_); (case hm => kernel_rfl); (case hB => decide +kernel); clear S
              iterate 37
                (with_reducible apply softs_cons)
                (case hw =>
                  (with_reducible apply soft_of); (case hi => rfl)
                  intro T wz S
                  simp only [List.cons_append, List.nil_append] at S
                  go_wp2_with first | go_skip | ((with_reducible apply wps_load_el S 0 (hj := HX.out) (q := 0) (u := .int .i64 x.what)); (case hx | hi => rfl); (case hn => omega); (case hu => rfl); (case hT => decide +kernel)) | ((with_reducible apply wps_load_el S 1 (hj := HY.out) (q := 0) (u := .int .i64 y.what)); (case hx | hi => rfl); (case hn => omega); (case hu => rfl); (case hT => decide +kernel)) | ((with_reducible apply wps_load_el S 0 (hj := HX.out) (q := 1) (u := .int .i64 x.a)); (case hx | hi => rfl); (case hn => omega); (case hu => rfl); (case hT => decide +kernel)) | ((with_reducible apply wps_load_el S 1 (hj := HY.out) (q := 1) (u := .int .i64 y.a)); (case hx | hi => rfl); (case hn => omega); (case hu => rfl); (case hT => decide +kernel)) | ((with_reducible apply wps_load_el S 0 (hj := HX.out) (q := 2) (u := .int .i64 x.b)); (case hx | hi => rfl); (case hn => omega); (case hu => rfl); (case hT => decide +kernel)) | ((with_reducible apply wps_load_el S 1 (hj := HY.out) (q := 2) (u := .int .i64 y.b)); (case hx | hi => rfl); (case hn => omega); (case hu => rfl); (case hT => decide +kernel)) | ((with_reducible refine tot_done ?ht ?_); (case ht => kernel_rfl)) | ((with_reducible apply wps_load S 0); (case hx | hi | hu => rfl); (case hT => decide +kernel))
                  exact ⟨rfl, S⟩)
                (case hs => exact ⟨_, rfl, by kernel_rfl⟩)
              refine softs_nil ?_
              (with_reducible apply W_done); (case hn => rfl); (case hr => decide +kernel)
              intro wz S
              simp only [List.append_nil] at S
              go_wp2_with first | go_skip | ((with_reducible refine wpList_skip ?hw ?_); (case hw => with_unfolding_all rfl); simp only [Act.put, List.setIfInBounds_toArray, List.set_cons_succ, List.set_cons_zero]) | ((with_reducible refine tot_done ?ht ?_); (case ht => kernel_rfl)) | ((with_reducible apply wps_text S); (case hm => kernel_rfl); (case hB => decide +kernel); clear S; intro wz S) | ((with_reducible apply wps_load S 0); (case hx | hi | hu => rfl); (case hT => decide +kernel))
              go_ret
              exact ⟨congrArg (fun b => Ending.returned (.bool b)) (decide_eq_false HN.out).symm, S.below⟩
          · have k2 : (x.a != y.a) = true := by simp [g2]
            have HN : Hid (xs ≠ ys) := Lib.hid fun e => by rw [e, hy] at hx; cases hx; exact g2 rfl
            clear hx hy g1 g2 He
            go_wp2_with first | go_skip | ((with_reducible refine wpList_skip ?hw ?_); (case hw => with_unfolding_all rfl); simp only [Act.put, List.setIfInBounds_toArray, List.set_cons_succ, List.set_cons_zero]) | ((with_reducible refine tot_done ?ht ?_); (case ht => kernel_rfl)) | ((with_reducible apply wps_load S 0); (case hx | hi | hu => rfl); (case hT => decide +kernel)) | ((with_reducible apply wps_load S 1); (case hx | hi | hu => rfl); (case hT => decide +kernel))
            (refine wp_region_w (soft := [0, 1, 2, 3, 4, 5, 6, 7, 8, 9, 10, 11, 12, 13, 14, 15, 16, 17, 18, 19, 20, 21, 22, 23, 24, 25, 26, 27, 28, 29, 30, 31, 32, 33, 34, 35, 36]) S ?hm ?hB ?_); (case hm => kernel_rfl); (case hB => decide +kernel); clear S
            iterate 37
              (with_reducible apply softs_cons)
              (case hw =>
                (with_reducible apply soft_of); (case hi => rfl)
                intro T wz S
                simp only [List.cons_append, List.nil_append] at S
                go_wp2_with first | go_skip | ((with_reducible apply wps_load_el S 0 (hj := HX.out) (q := 0) (u := .int .i64 x.what)); (case hx | hi => rfl); (case hn => omega); (case hu => rfl); (case hT => decide +kernel)) | ((with_reducible apply wps_load_el S 1 (hj := HY.out) (q := 0) (u := .int .i64 y.what)); (case hx | hi => rfl); (case hn => omega); (case hu => rfl); (case hT => decide +kernel)) | ((with_reducible apply wps_load_el S 0 (hj := HX.out) (q := 1) (u := .int .i64 x.a)); (case hx | hi => rfl); (case hn => omega); (case hu => rfl); (case hT => decide +kernel)) | ((with_reducible apply wps_load_el S 1 (hj := HY.out) (q := 1) (u := .int .i64 y.a)); (case hx | hi => rfl); (case hn => omega); (case hu => rfl); (case hT => decide +kernel)) | ((with_reducible refine tot_done ?ht ?_); (case ht => kernel_rfl)) | ((with_reducible apply wps_load S 0); (case hx | hi | hu => rfl); (case hT => decide +kernel))
                exact ⟨rfl, S⟩)
              (case hs => exact ⟨_, rfl, by kernel_rfl⟩)
            refine softs_nil ?_
            (with_reducible apply W_done); (case hn => rfl); (case hr => decide +kernel)
            intro wz S
            simp only [List.append_nil] at S
            go_wp2_with first | go_skip | ((with_reducible refine wpList_skip ?hw ?_); (case hw => with_unfolding_all rfl); simp only [Act.put, List.setIfInBounds_toArray, List.set_cons_succ, List.set_cons_zero]) | ((with_reducible refine tot_done ?ht ?_); (case ht => kernel_rfl)) | ((with_reducible apply wps_text S); (case hm => kernel_rfl); (case hB => decide +kernel); clear S; intro wz S) | ((with_reducible apply wps_load S 0); (case hx | hi | hu => rfl); (case hT => decide +kernel))
            go_ret
            exact ⟨congrArg (fun b => Ending.returned (.bool b)) (decide_eq_false HN.out).symm, S.below⟩
        · have k1 : (x.what != y.what) = true := by simp [g1]
          have HN : Hid (xs ≠ ys) := Lib.hid fun e => by rw [e, hy] at hx; cases hx; exact g1 rfl
          clear hx hy g1 He
          go_wp2_with first | go_skip | ((with_reducible refine wpList_skip ?hw ?_); (case hw => with_unfolding_all rfl); simp only [Act.put, List.setIfInBounds_toArray, List.set_cons_succ, List.set_cons_zero]) | ((with_reducible refine tot_done ?ht ?_); (case ht => kernel_rfl)) | ((with_reducible apply wps_load S 0); (case hx | hi | hu => rfl); (case hT => decide +kernel)) | ((with_reducible apply wps_load S 1); (case hx | hi | hu => rfl); (case hT => decide +kernel))
          (refine wp_region_w (soft := [0, 1, 2, 3, 4, 5, 6, 7, 8, 9, 10, 11, 12, 13, 14, 15, 16, 17, 18, 19, 20, 21, 22, 23, 24, 25, 26, 27, 28, 29, 30, 31, 32, 33, 34, 35, 36]) S ?hm ?hB ?_); (case hm => kernel_rfl); (case hB => decide +kernel); clear S
          iterate 37
            (with_reducible apply softs_cons)
            (case hw =>
              (with_reducible apply soft_of); (case hi => rfl)
              intro T wz S
              simp only [List.cons_append, List.nil_append] at S
              go_wp2_with first | go_skip | ((with_reducible apply wps_load_el S 0 (hj := HX.out) (q := 0) (u := .int .i64 x.what)); (case hx | hi => rfl); (case hn => omega); (case hu => rfl); (case hT => decide +kernel)) | ((with_reducible apply wps_load_el S 1 (hj := HY.out) (q := 0) (u := .int .i64 y.what)); (case hx | hi => rfl); (case hn => omega); (case hu => rfl); (case hT => decide +kernel)) | ((with_reducible refine tot_done ?ht ?_); (case ht => kernel_rfl)) | ((with_reducible apply wps_load S 0); (case hx | hi | hu => rfl); (case hT => decide +kernel))
              exact ⟨rfl, S⟩)
            (case hs => exact ⟨_, rfl, by kernel_rfl⟩)
          refine softs_nil ?_
          (with_reducible apply W_done); (case hn => rfl); (case hr => decide +kernel)
          intro wz S
          simp only [List.append_nil] at S
          go_wp2_with first | go_skip | ((with_reducible refine wpList_skip ?hw ?_); (case hw => with_unfolding_all rfl); simp only [Act.put, List.setIfInBounds_toArray, List.set_cons_succ, List.set_cons_zero]) | ((with_reducible refine tot_done ?ht ?_); (case ht => kernel_rfl)) | ((with_reducible apply wps_text S); (case hm => kernel_rfl); (case hB => decide +kernel); clear S; intro wz S) | ((with_reducible apply wps_load S 0); (case hx | hi | hu => rfl); (case hT => decide +kernel))
          go_ret
          exact ⟨congrArg (fun b => Ending.returned (.bool b)) (decide_eq_false HN.out).symm, S.below⟩
      · obtain rfl : j = xs.length := by omega
        have HE : Hid (xs = ys) := Lib.hid (List.ext_getElem? fun q => by
          rcases Nat.lt_or_ge q xs.length with h | h
          · exact He.out q h
          · rw [List.getElem?_eq_none h, List.getElem?_eq_none (by have := HL.out; omega)])
        clear He
        go_wp2_with first | go_skip | ((with_reducible refine wpList_skip ?hw ?_); (case hw => with_unfolding_all rfl); simp only [Act.put, List.setIfInBounds_toArray, List.set_cons_succ, List.set_cons_zero]) | ((with_reducible refine tot_done ?ht ?_); (case ht => kernel_rfl)) | ((with_reducible apply wps_text S); (case hm => kernel_rfl); (case hB => decide +kernel); clear S; intro wz S) | ((with_reducible apply wps_load S 0); (case hx | hi | hu => rfl); (case hT => decide +kernel))
        go_ret
        exact ⟨congrArg (fun b => Ending.returned (.bool b)) (decide_eq_true HE.out).symm, S.below⟩
  · have hl2 : ((xs.length : Int) != ys.length) = true := by rw [bne_iff_ne]; omega
    have HN : Hid (xs ≠ ys) := Lib.hid fun e => hl (by rw [e])
    clear hl
    go_wp2_with first | go_skip | ((with_reducible refine wpList_skip ?hw ?_); (case hw => with_unfolding_all rfl); simp only [Act.put, List.setIfInBounds_toArray, List.set_cons_succ, List.set_cons_zero]) | ((with_reducible refine tot_done ?ht ?_); (case ht => kernel_rfl)) | ((with_reducible apply wps_text S); (case hm => kernel_rfl); (case hB => decide +kernel); clear S; intro wz S) | ((with_reducible apply wps_load S 0); (case hx | hi | hu => rfl); (case hT => decide +kernel))
    go_ret
    exact ⟨congrArg (fun b => Ending.returned (.bool b)) (decide_eq_false HN.out).symm, S.below⟩
def DPlRel (v out : Value) (p : List DoE) (w : World) (i : Value) (wr : World) : Prop :=
  ∃ j : Nat, j ≤ p.length ∧ i = .int .i64 j ∧ St (fun _ => False) w wr [Own 39 docell 3 out (p.take j), Sl true docell 3 v p]
def DPlPost (p : List DoE) (w : World) (e : Ending) (w' : World) : Prop :=
  ∃ ad c, e = .returned (.slice ad p.length c) ∧ St (fun _ => False) w w' [Own 39 docell 3 (.slice ad p.length c) p]
set_option maxRecDepth 100000 in
set_option maxHeartbeats 16000000 in
theorem dplain_calls (v : Value) (p : List DoE) (w : World) (F : Nat → Prop) (h : (Sl true docell 3 v p).at_ w F) (hn : p.length ≤ 65536) : Calls Tryd.prog 10 #[v] w (DPlPost p w) := by
  have S : St (fun _ => False) w w [Sl true docell 3 v p] := (St.init _ w).share rfl rfl h
  obtain ⟨ad, cp, rfl, _⟩ := (S.sl 0 rfl).elim fun _ h => h.form
  clear h
  replace S := S.nil 39 docell 3
  go_enter Tryd.func10, Tryd.ntmps10
  go_wp2_with first | ((with_reducible refine tot_done ?ht ?_); (case ht => kernel_rfl)) | ((with_reducible apply wps_text S); (case hm => kernel_rfl); (case hB => decide +kernel); clear S; intro wz S) | ((with_reducible apply wps_load S 0); (case hx | hi | hu => rfl); (case hT => decide +kernel))
  go_loopw [3, 4] (fun out i wr => DPlRel (.slice ad p.length cp) out p w i wr) (fun _ i _ => p.length - (intOf i).toNat)
  case atStart => exact ⟨0, Nat.zero_le _, rfl, S⟩
  case round =>
    clear S
    obtain ⟨j, hj, rfl, S⟩ := hrel
    obtain ⟨F0, hF0⟩ := S.get (i := 0) rfl
    obtain ⟨ad0, c0, rfl⟩ := hF0.1.form
    clear hF0
    by_cases hlt : j < p.length
    · obtain ⟨x, hx⟩ : ∃ x, p[j]? = some x := ⟨_, List.getElem?_eq_getElem hlt⟩
      obtain ⟨R, o, rfl⟩ : ∃ R o, ad = some ⟨R, o, none⟩ := (S.sl 1 rfl).elim fun F h => h.head (by omega)
      have hlt2 : (j : Int) < p.length := by omega
      have HT : Hid (p.take (j + 1) = p.take j ++ [x]) := by show _ = _; rw [List.take_add_one, hx]; rfl
      have htl : (p.take j).length < 4294967296 := by rw [List.length_take, Nat.min_eq_left hj]; omega
      have hlj : (p.take j).length = j := by simp; omega
      rw [hlj] at S
      rw [hlj]
      have HX := Lib.hid hx
      clear hx
      have HLJ := Lib.hid hlj
      clear hlj
      go_wp2_with first | ((with_reducible refine tot_done ?ht ?_); (case ht => kernel_rfl)) | ((with_reducible apply wps_load S 0); (case hx | hi | hu => rfl); (case hT => decide +kernel))
      replace S := S.pick [1, 0] rfl
      simp only [pick, nth] at S
      (refine wp_region_wt (soft := [0, 1, 2, 3, 4, 5, 6, 7, 8, 9, 10, 11, 12, 13, 14, 15, 16]) (L := [_]) (T := [_]) S ?hm ?hB ?_); (case hm => kernel_rfl); (case hB => decide +kernel); clear S
      iterate 17
        (with_reducible apply softs_cons)
        (case hw =>
          (with_reducible apply soft_of); (case hi => rfl)
          intro T wz S
          simp only [List.cons_append, List.nil_append] at S
          go_wp2_with first | ((with_reducible apply wps_load_el S 0 (hj := HX.out) (q := 0) (u := .int .i64 x.what)); (case hx | hi => rfl); (case hn => omega); (case hu => rfl); (case hT => decide +kernel)) | ((with_reducible apply wps_load_el S 0 (hj := HX.out) (q := 1) (u := .int .i64 x.a)); (case hx | hi => rfl); (case hn => omega); (case hu => rfl); (case hT => decide +kernel)) | ((with_reducible apply wps_load_el S 0 (hj := HX.out) (q := 2) (u := .int .i64 x.b)); (case hx | hi => rfl); (case hn => omega); (case hu => rfl); (case hT => decide +kernel)) | ((with_reducible apply wps_append1 elem_RD docells doone (by decide) S 1 (j := 2) (e := x)); (case hx | hy | hi | hj | he => rfl); (case hl => first | omega | (simp; omega)); clear S; intro az nz cz wz hnz S; simp only [List.set_cons_succ, List.set_cons_zero] at S) | ((with_reducible apply wps_build1a (T := 27) (E := 39) S); (case hx => rfl); (case hr => intro w; kernel_rfl); clear S; intro bz wz S) | ((with_reducible refine tot_done ?ht ?_); (case ht => kernel_rfl)) | ((with_reducible apply wps_load S 0); (case hx | hi | hu => rfl); (case hT => decide +kernel))
          exact ⟨rfl, S⟩)
        (case hs => exact ⟨_, rfl, by kernel_rfl⟩)
      refine softs_nil ?_
      (with_reducible apply W_hard1 (i := 17)); (case hn => rfl); (case hr => decide +kernel)
      intro wz S
      (with_reducible apply hard_of); (case hi => rfl)
      simp only [List.cons_append, List.nil_append] at S
      go_wp2_with first | ((with_reducible apply wps_load_el S 0 (hj := HX.out) (q := 0) (u := .int .i64 x.what)); (case hx | hi => rfl); (case hn => omega); (case hu => rfl); (case hT => decide +kernel)) | ((with_reducible apply wps_load_el S 0 (hj := HX.out) (q := 1) (u := .int .i64 x.a)); (case hx | hi => rfl); (case hn => omega); (case hu => rfl); (case hT => decide +kernel)) | ((with_reducible apply wps_load_el S 0 (hj := HX.out) (q := 2) (u := .int .i64 x.b)); (case hx | hi => rfl); (case hn => omega); (case hu => rfl); (case hT => decide +kernel)) | ((with_reducible apply wps_append1 elem_RD docells doone (by decide) S 1 (j := 2) (e := x)); (case hx | hy | hi | hj | he => rfl); (case hl => first | omega | (simp; omega)); clear S; intro az nz cz wz hnz S; simp only [List.set_cons_succ, List.set_cons_zero] at S) | ((with_reducible apply wps_build1a (T := 27) (E := 39) S); (case hx => rfl); (case hr => intro w; kernel_rfl); clear S; intro bz wz S) | ((with_reducible refine tot_done ?ht ?_); (case ht => kernel_rfl)) | ((with_reducible apply wps_load S 0); (case hx | hi | hu => rfl); (case hT => decide +kernel))
      refine ⟨_, S.pick [1, 2, 0] rfl, ?_⟩
      clear S
      (with_reducible apply W_hard1 (i := 18)); (case hn => rfl); (case hr => decide +kernel)
      intro wz S
      (with_reducible apply hard_of); (case hi => rfl)
      simp only [List.cons_append, List.nil_append] at S
      go_wp2_with first | ((with_reducible apply wps_load_el S 0 (hj := HX.out) (q := 0) (u := .int .i64 x.what)); (case hx | hi => rfl); (case hn => omega); (case hu => rfl); (case hT => decide +kernel)) | ((with_reducible apply wps_load_el S 0 (hj := HX.out) (q := 1) (u := .int .i64 x.a)); (case hx | hi => rfl); (case hn => omega); (case hu => rfl); (case hT => decide +kernel)) | ((with_reducible apply wps_load_el S 0 (hj := HX.out) (q := 2) (u := .int .i64 x.b)); (case hx | hi => rfl); (case hn => omega); (case hu => rfl); (case hT => decide +kernel)) | ((with_reducible apply wps_append1 elem_RD docells doone (by decide) S 1 (j := 2) (e := x)); (case hx | hy | hi | hj | he => rfl); (case hl => first | omega | (simp; omega)); clear S; intro az nz cz wz hnz S; simp only [List.set_cons_succ, List.set_cons_zero] at S) | ((with_reducible apply wps_build1a (T := 27) (E := 39) S); (case hx => rfl); (case hr => intro w; kernel_rfl); clear S; intro bz wz S) | ((with_reducible refine tot_done ?ht ?_); (case ht => kernel_rfl)) | ((with_reducible apply wps_load S 0); (case hx | hi | hu => rfl); (case hT => decide +kernel))
      refine ⟨_, S, ?_⟩
      clear S
      (refine W_mid (f := 0) (soft := [19]) rfl ?hB ?_); (case hB => decide +kernel)
      iterate 1
        (with_reducible apply softs_cons)
        (case hw =>
          (with_reducible apply soft_of); (case hi => rfl)
          intro T wz S
          simp only [List.cons_append, List.nil_append] at S
          go_wp2_with first | ((with_reducible apply wps_load_el S 0 (hj := HX.out) (q := 0) (u := .int .i64 x.what)); (case hx | hi => rfl); (case hn => omega); (case hu => rfl); (case hT => decide +kernel)) | ((with_reducible apply wps_load_el S 0 (hj := HX.out) (q := 1) (u := .int .i64 x.a)); (case hx | hi => rfl); (case hn => omega); (case hu => rfl); (case hT => decide +kernel)) | ((with_reducible apply wps_load_el S 0 (hj := HX.out) (q := 2) (u := .int .i64 x.b)); (case hx | hi => rfl); (case hn => omega); (case hu => rfl); (case hT => decide +kernel)) | ((with_reducible apply wps_append1 elem_RD docells doone (by decide) S 1 (j := 2) (e := x)); (case hx | hy | hi | hj | he => rfl); (case hl => first | omega | (simp; omega)); clear S; intro az nz cz wz hnz S; simp only [List.set_cons_succ, List.set_cons_zero] at S) | ((with_reducible apply wps_build1a (T := 27) (E := 39) S); (case hx => rfl); (case hr => intro w; kernel_rfl); clear S; intro bz wz S) | ((with_reducible refine tot_done ?ht ?_); (case ht => kernel_rfl)) | ((with_reducible apply wps_load S 0); (case hx | hi | hu => rfl); (case hT => decide +kernel))
          exact ⟨rfl, S⟩)
        (case hs => exact ⟨_, rfl, by kernel_rfl⟩)
      refine softs_nil ?_
      (with_reducible apply W_done); (case hn => rfl); (case hr => decide +kernel)
      intro wz S
      repeat (first | simp only at S | simp only [pick] at S | simp only [nth] at S | simp only [List.set_cons_succ] at S | simp only [List.set_cons_zero] at S | simp only [List.setIfInBounds_toArray] at S | simp only [setAll] at S | simp only [List.cons_append] at S | simp only [List.nil_append] at S | simp only [List.append_nil] at S)
      go_wp2_with first | ((with_reducible refine tot_done ?ht ?_); (case ht => kernel_rfl)) | ((with_reducible apply wps_text S); (case hm => kernel_rfl); (case hB => decide +kernel); clear S; intro wz S) | ((with_reducible apply wps_load S 0); (case hx | hi | hu => rfl); (case hT => decide +kernel))
      go_roundw
      case rel => exact ⟨j + 1, by omega, by go_num, by rw [HT.out]; exact S.pick [1, 0] rfl⟩
      case measure => first | (simp [intOf]; done) | (simp [intOf]; omega)
    · obtain rfl : j = p.length := by omega
      rw [List.take_length] at S
      rw [List.take_length]
      go_wp2_with first | ((with_reducible refine tot_done ?ht ?_); (case ht => kernel_rfl)) | ((with_reducible apply wps_text S); (case hm => kernel_rfl); (case hB => decide +kernel); clear S; intro wz S) | ((with_reducible apply wps_load S 0); (case hx | hi | hu => rfl); (case hT => decide +kernel))
      go_ret
      exact ⟨_, _, rfl, S.pick [0] rfl⟩
end Go.Proofs.YtkcnbejpmknaoaaDoor

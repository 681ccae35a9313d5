import Derived.Test.YtmjljoaakdocaaaGreatDoorY09
import Derived.WalkMore
import Derived.Test.YtmjljoaakdocaaaGreatDoorY00
import Derived.ProofKit
import Derived.Deep.Slices
import Derived.OpenShut
/- Things to do, as the machine holds them; the law's same and plain (chapter 21). -/
namespace Go.Proofs.YtmjljoaakdocaaaGreatDoor
open Go Go.RowKit Reg Mem

instance : DecidableEq DoE := fun a b => decidable_of_iff (a.what = b.what ∧ a.a = b.a ∧ a.b = b.b) (by cases a; cases b; simp)
def docell (d : DoE) : List Value := [.int .i64 d.what, .int .i64 d.a, .int .i64 d.b]
theorem docells : ∀ x, (docell x).length = 3 := fun _ => rfl
theorem doone : ∀ x, ∀ u ∈ docell x, u.oneCell' = true := fun x u hu => by
  simp only [docell, List.mem_cons, List.not_mem_nil, or_false] at hu; rcases hu with rfl | rfl | rfl <;> rfl
set_option maxRecDepth 100000 in
theorem elem_KD : Elem Tryz.prog 90 23 3 24 := ⟨_, .agg #[.int .i64 0, .int .i64 0, .int .i64 0], Tryz.underlying90, rfl, by kernel_rfl, by kernel_rfl, by kernel_rfl, by kernel_rfl, by omega⟩
def DSmRel (v1 v2 : Value) (xs ys : List DoE) (w : World) (i : Value) (wr : World) : Prop :=
  ∃ j : Nat, j ≤ xs.length ∧ i = .int .i64 j ∧ Hid (∀ q : Nat, q < j → xs[q]? = ys[q]?) ∧ St (fun _ => False) w wr [Sl true docell 3 v1 xs, Sl true docell 3 v2 ys]
set_option maxRecDepth 100000 in
set_option maxHeartbeats 16000000 in
theorem dsame_calls (v1 v2 : Value) (xs ys : List DoE) (w : World) (F1 F2 : Nat → Prop) (h1 : (Sl true docell 3 v1 xs).at_ w F1) (h2 : (Sl true docell 3 v2 ys).at_ w F2) (hn : xs.length ≤ 65536) (hn2 : ys.length ≤ 65536) :
    Calls Tryz.prog 45 #[v1, v2] w fun r w' => r = .returned (.bool (decide (xs = ys))) ∧ Below w.heap.size w w' := by
  have S : St (fun _ => False) w w [Sl true docell 3 v1 xs, Sl true docell 3 v2 ys] := ((St.init _ w).share rfl rfl h2).share rfl rfl h1
  obtain ⟨ad1, c1, rfl, _⟩ := (S.sl 0 rfl).elim fun _ h => h.form
  obtain ⟨ad2, c2, rfl, _⟩ := (S.sl 1 rfl).elim fun _ h => h.form
  clear h1 h2
  go_enter Tryz.func45, Tryz.ntmps45
  by_cases hl : xs.length = ys.length
  · have hl2 : ((xs.length : Int) != ys.length) = false := by simp; omega
    have HL := Lib.hid hl
    clear hl
    go_wp2_with first | go_skip | ((with_reducible refine wpList_skip ?hw ?_); (case hw => with_unfolding_all rfl); simp only [Act.put, List.setIfInBounds_toArray, List.set_cons_succ, List.set_cons_zero]) | ((with_reducible refine tot_done ?ht ?_); (case ht => kernel_rfl)) | ((with_reducible apply wps_text S); (case hm => kernel_rfl); (case hB => decide +kernel); clear S; intro wz S) | ((with_reducible apply wps_load S 0); (case hx | hi | hu => rfl); (case hT => decide +kernel))
    go_loopw [5] (fun i wr => DSmRel (.slice ad1 xs.length c1) (.slice ad2 ys.length c2) xs ys w i wr) (fun i _ => xs.length - (intOf i).toNat)
    case atStart => exact ⟨0, Nat.zero_le _, rfl, fun q h => by omega, S⟩
    case round =>
      clear S
      obtain ⟨j, hj, rfl, He, S⟩ := hrel
      by_cases hlt : j < xs.length
      · obtain ⟨x, hx⟩ : ∃ x, xs[j]? = some x := ⟨_, List.getElem?_eq_getElem hlt⟩
        obtain ⟨y, hy⟩ : ∃ y, ys[j]? = some y := ⟨_, List.getElem?_eq_getElem (by have := HL.out; omega)⟩
        obtain ⟨R1, o1, rfl⟩ : ∃ R o, ad1 = some ⟨R, o, none⟩ := (S.sl 0 rfl).elim fun F h => h.head (by omega)
        obtain ⟨R2, o2, rfl⟩ : ∃ R o, ad2 = some ⟨R, o, none⟩ := (S.sl 1 rfl).elim fun F h => h.head (by have := HL.out; omega)
        have hlt2 : (j : Int) < xs.length := by omega
        have hlt3 : (j : Int) < ys.length := by have := HL.out; omega
        have hlt4 : j < ys.length := by have := HL.out; omega
        have HX := Lib.hid hx
        have HY := Lib.hid hy
        by_cases g1 : x.what = y.what
        · have k1 : (x.what != y.what) = false := by simp [g1]
          by_cases g2 : x.a = y.a
          · have k2 : (x.a != y.a) = false := by simp [g2]
            by_cases g3 : x.b = y.b
            · have k3 : (x.b != y.b) = false := by simp [g3]
              have He2 : Hid (∀ q : Nat, q < j + 1 → xs[q]? = ys[q]?) := by
                intro q hq
                by_cases h : q < j
                · exact He q h
                · obtain rfl : q = j := by omega
                  rw [hx, hy]; cases x; cases y; simp only at g1 g2 g3; subst g1 g2 g3; rfl
              clear hx hy g1 g2 g3 He
              go_wp2_with first | go_skip | ((with_reducible refine wpList_skip ?hw ?_); (case hw => with_unfolding_all rfl); simp only [Act.put, List.setIfInBounds_toArray, List.set_cons_succ, List.set_cons_zero]) | ((with_reducible refine tot_done ?ht ?_); (case ht => kernel_rfl)) | ((with_reducible apply wps_load S 0); (case hx | hi | hu => rfl); (case hT => decide +kernel)) | ((with_reducible apply wps_load S 1); (case hx | hi | hu => rfl); (case hT => decide +kernel))
              (refine wp_region_w (soft := [0, 1, 2, 3, 4, 5, 6, 7, 8, 9, 10, 11, 12, 13, 14, 15, 16, 17, 18, 19, 20, 21, 22, 23, 24, 25, 26, 27, 28, 29, 30, 31, 32, 33, 34, 35, 36]) S ?hm ?hB ?_); (case hm => kernel_rfl); (case hB => decide +kernel); clear S
              iterate 37
                (with_reducible apply softs_cons)
                (case hw =>
                  (with_reducible apply soft_of); (case hi => rfl)
                  intro T wz S
                  simp only [List.cons_append, List.nil_append] at S
                  go_wp2_with first | go_skip | ((with_reducible apply wps_load_el S 0 (hj := HX.out) (q := 0) (u := .int .i64 x.what)); (case hx | hi => rfl); (case hn => omega); (case hu => rfl); (case hT => decide +kernel)) | ((with_reducible apply wps_load_el S 1 (hj := HY.out) (q := 0) (u := .int .i64 y.what)); (case hx | hi => rfl); (case hn => omega); (case hu => rfl); (case hT => decide +kernel)) | ((with_reducible apply wps_load_el S 0 (hj := HX.out) (q := 1) (u := .int .i64 x.a)); (case hx | hi => rfl); (case hn => omega); (case hu => rfl); (case hT => decide +kernel)) | ((with_reducible apply wps_load_el S 1 (hj := HY.out) (q := 1) (u := .int .i64 y.a)); (case hx | hi => rfl); (case hn => omega); (case hu => rfl); (case hT => decide +kernel)) | ((with_reducible apply wps_load_el S 0 (hj := HX.out) (q := 2) (u := .int .i64 x.b)); (case hx | hi => rfl); (case hn => omega); (case hu => rfl); (case hT => decide +kernel)) | ((with_reducible apply wps_load_el S 1 (hj := HY.out) (q := 2) (u := .int .i64 y.b)); (case hx | hi => rfl); (case hn => omega); (case hu => rfl); (case hT => decide +kernel)) | ((with_reducible refine tot_done ?ht ?_); (case ht => kernel_rfl)) | ((with_reducible apply wps_load S 0); (case hx | hi | hu => rfl); (case hT => decide +kernel))
                  exact ⟨rfl, S⟩)
                (case hs => exact ⟨_, rfl, by kernel_rfl⟩)
              refine softs_nil ?_
              (with_reducible apply W_done); (case hn => rfl); (case hr => decide +kernel)
              intro wz S
              simp only [List.append_nil] at S
              go_wp2_with first | go_skip | ((with_reducible refine wpList_skip ?hw ?_); (case hw => with_unfolding_all rfl); simp only [Act.put, List.setIfInBounds_toArray, List.set_cons_succ, List.set_cons_zero]) | ((with_reducible refine tot_done ?ht ?_); (case ht => kernel_rfl)) | ((with_reducible apply wps_text S); (case hm => kernel_rfl); (case hB => decide +kernel); clear S; intro wz S) | ((with_reducible apply wps_load S 0); (case hx | hi | hu => rfl); (case hT => decide +kernel))
              go_roundw
              case rel => exact ⟨j + 1, by omega, by go_num, He2, S⟩
              case measure => first | (simp [intOf]; done) | (simp [intOf]; omega)
            · have k3 : (x.b != y.b) = true := by simp [g3]
              have HN : Hid (xs ≠ ys) := Lib.hid fun e => by rw [e, hy] at hx; cases hx; exact g3 rfl
              clear hx hy g1 g2 g3 He
              go_wp2_with first | go_skip | ((with_reducible refine wpList_skip ?hw ?_); (case hw => with_unfolding_all rfl); simp only [Act.put, List.setIfInBounds_toArray, List.set_cons_succ, List.set_cons_zero]) | ((with_reducible refine tot_done ?ht ?_); (case ht => kernel_rfl)) | ((with_reducible apply wps_load S 0); (case hx | hi | hu => rfl); (case hT => decide +kernel)) | ((with_reducible apply wps_load S 1); (case hx | hi | hu => rfl); (case hT => decide +kernel))
              (refine wp_region_w (soft := [0, 1, 2, 3, 4, 5, 6, 7, 8, 9, 10, 11, 12, 13, 14, 15, 16, 17, 18, 19, 20, 21, 22, 23, 24, 25, 26, 27, 28, 29, 30, 31, 32, 33, 34, 35, 36]) S ?hm ?hB ?_); (case hm => kernel_rfl); (case hB => decide +kernel); clear S
              iterate 37
                (with_reducible apply softs_cons)
                (case hw =>
                  (with_reducible apply soft_of); (case hi => rfl)
                  intro T wz S
                  simp only [List.cons_append, List.nil_append] at S
                  go_wp2_with first | go_skip | ((with_reducible apply wps_load_el S 0 (hj := HX.out) (q := 0) (u := .int .i64 x.what)); (case hx | hi => rfl); (case hn => omega); (case hu => rfl); (case hT => decide +kernel)) | ((with_reducible apply wps_load_el S 1 (hj := HY.out) (q := 0) (u := .int .i64 y.what)); (case hx | hi => rfl); (case hn => omega); (case hu => rfl); (case hT => decide +kernel)) | ((with_reducible apply wps_load_el S 0 (hj := HX.out) (q := 1) (u := .int .i64 x.a)); (case hx | hi => rfl); (case hn => omega); (case hu => rfl); (case hT => decide +kernel)) | ((with_reducible apply wps_load_el S 1 (hj := HY.out) (q := 1) (u := .int .i64 y.a)); (case hx | hi => rfl); (case hn => omega); (case hu => rfl); (case hT => decide +kernel)) | ((with_reducible apply wps_load_el S 0 (hj := HX.out) (q := 2) (u := .int .i64 x.b)); (case hx | hi => rfl); (case hn => omega); (case hu => rfl); (case hT => decide +kernel)) | ((with_reducible apply wps_load_el S 1 (hj := HY.out) (q := 2) (u := .int .i64 y.b)); (case hx | hi => rfl); (case hn => omega); (case hu => rfl); (case hT => decide +kernel)) | ((with_reducible refine tot_done ?ht ?_); (case ht => kernel_rfl)) | ((with_reducible apply wps_load S 0); (case hx | hi | hu => rfl); (case hT => decide +kernel))
                  exact ⟨rfl, S⟩)
                (case hs => exact ⟨_, rfl, by kernel_rfl⟩)
              refine softs_nil ?_
              (with_reducible apply W_done); (case hn => rfl); (case hr => decide +kernel)
              intro wz S
              simp only [List.append_nil] at S
              go_wp2_with first | go_skip | ((with_reducible refine wpList_skip ?hw ?_); (case hw => with_unfolding_all rfl); simp only [Act.put, List.setIfInBounds_toArray, List.set_cons_succ, List.set_cons_zero]) | ((with_reducible refine tot_done ?ht ?_); (case ht => kernel_rfl)) | ((with_reducible apply wps_text S); (case hm => kernel_rfl); (case hB => decide +kernel); clear S; intro wz S) | ((with_reducible apply wps_load S 0); (case hx | hi | hu => rfl); (case hT => decide +kernel))
              go_ret
              exact ⟨congrArg (fun b => Ending.returned (.bool b)) (decide_eq_false HN.out).symm, S.below⟩
          · have k2 : (x.a != y.a) = true := by simp [g2]
            have HN : Hid (xs ≠ ys) := Lib.hid fun e => by rw [e, hy] at hx; cases hx; exact g2 rfl
            clear hx hy g1 g2 He
            go_wp2_with first | go_skip | ((with_reducible refine wpList_skip ?hw ?_); (case hw => with_unfolding_all rfl); simp only [Act.put, List.setIfInBounds_toArray, List.set_cons_succ, List.set_cons_zero]) | ((with_reducible refine tot_done ?ht ?_); (case ht => kernel_rfl)) | ((with_reducible apply wps_load S 0); (case hx | hi | hu => rfl); (case hT => decide +kernel)) | ((with_reducible apply wps_load S 1); (case hx | hi | hu => rfl); (case hT => decide +kernel))
            (refine wp_region_w (soft := [0, 1, 2, 3, 4, 5, 6, 7, 8, 9, 10, 11, 12, 13, 14, 15, 16, 17, 18, 19, 20, 21, 22, 23, 24, 25, 26, 27, 28, 29, 30, 31, 32, 33, 34, 35, 36]) S ?hm ?hB ?_); (case hm => kernel_rfl); (case hB => decide +kernel); clear S
            iterate 37
              (with_reducible apply softs_cons)
              (case hw =>
                (with_reducible apply soft_of); (case hi => rfl)
                intro T wz S
                simp only [List.cons_append, List.nil_append] at S
                go_wp2_with first | go_skip | ((with_reducible apply wps_load_el S 0 (hj := HX.out) (q := 0) (u := .int .i64 x.what)); (case hx | hi => rfl); (case hn => omega); (case hu => rfl); (case hT => decide +kernel)) | ((with_reducible apply wps_load_el S 1 (hj := HY.out) (q := 0) (u := .int .i64 y.what)); (case hx | hi => rfl); (case hn => omega); (case hu => rfl); (case hT => decide +kernel)) | ((with_reducible apply wps_load_el S 0 (hj := HX.out) (q := 1) (u := .int .i64 x.a)); (case hx | hi => rfl); (case hn => omega); (case hu => rfl); (case hT => decide +kernel)) | ((with_reducible apply wps_load_el S 1 (hj := HY.out) (q := 1) (u := .int .i64 y.a)); (case hx | hi => rfl); (case hn => omega); (case hu => rfl); (case hT => decide +kernel)) | ((with_reducible refine tot_done ?ht ?_); (case ht => kernel_rfl)) | ((with_reducible apply wps_load S 0); (case hx | hi | hu => rfl); (case hT => decide +kernel))
                exact ⟨rfl, S⟩)
              (case hs => exact ⟨_, rfl, by kernel_rfl⟩)
            refine softs_nil ?_
            (with_reducible apply W_done); (case hn => rfl); (case hr => decide +kernel)
            intro wz S
            simp only [List.append_nil] at S
            go_wp2_with first | go_skip | ((with_reducible refine wpList_skip ?hw ?_); (case hw => with_unfolding_all rfl); simp only [Act.put, List.setIfInBounds_toArray, List.set_cons_succ, List.set_cons_zero]) | ((with_reducible refine tot_done ?ht ?_); (case ht => kernel_rfl)) | ((with_reducible apply wps_text S); (case hm => kernel_rfl); (case hB => decide +kernel); clear S; intro wz S) | ((with_reducible apply wps_load S 0); (case hx | hi | hu => rfl); (case hT => decide +kernel))
            go_ret
            exact ⟨congrArg (fun b => Ending.returned (.bool b)) (decide_eq_false HN.out).symm, S.below⟩
        · have k1 : (x.what != y.what) = true := by simp [g1]
          have HN : Hid (xs ≠ ys) := Lib.hid fun e => by rw [e, hy] at hx; cases hx; exact g1 rfl
          clear hx hy g1 He
          go_wp2_with first | go_skip | ((with_reducible refine wpList_skip ?hw ?_); (case hw => with_unfolding_all rfl); simp only [Act.put, List.setIfInBounds_toArray, List.set_cons_succ, List.set_cons_zero]) | ((with_reducible refine tot_done ?ht ?_); (case ht => kernel_rfl)) | ((with_reducible apply wps_load S 0); (case hx | hi | hu => rfl); (case hT => decide +kernel)) | ((with_reducible apply wps_load S 1); (case hx | hi | hu => rfl); (case hT => decide +kernel))
          (refine wp_region_w (soft := [0, 1, 2, 3, 4, 5, 6, 7, 8, 9, 10, 11, 12, 13, 14, 15, 16, 17, 18, 19, 20, 21, 22, 23, 24, 25, 26, 27, 28, 29, 30, 31, 32, 33, 34, 35, 36]) S ?hm ?hB ?_); (case hm => kernel_rfl); (case hB => decide +kernel); clear S
          iterate 37
            (with_reducible apply softs_cons)
            (case hw =>
              (with_reducible apply soft_of); (case hi => rfl)
              intro T wz S
              simp only [List.cons_append, List.nil_append] at S
              go_wp2_with first | go_skip | ((with_reducible apply wps_load_el S 0 (hj := HX.out) (q := 0) (u := .int .i64 x.what)); (case hx | hi => rfl); (case hn => omega); (case hu => rfl); (case hT => decide +kernel)) | ((with_reducible apply wps_load_el S 1 (hj := HY.out) (q := 0) (u := .int .i64 y.what)); (case hx | hi => rfl); (case hn => omega); (case hu => rfl); (case hT => decide +kernel)) | ((with_reducible refine tot_done ?ht ?_); (case ht => kernel_rfl)) | ((with_reducible apply wps_load S 0); (case hx | hi | hu => rfl); (case hT => decide +kernel))
              exact ⟨rfl, S⟩)
            (case hs => exact ⟨_, rfl, by kernel_rfl⟩)
          refine softs_nil ?_
          (with_reducible apply W_done); (case hn => rfl); (case hr => decide +kernel)
          intro wz S
          simp only [List.append_nil] at S
          go_wp2_with first | go_skip | ((with_reducible refine wpList_skip ?hw ?_); (case hw => with_unfolding_all rfl); simp only [Act.put, List.setIfInBounds_toArray, List.set_cons_succ, List.set_cons_zero]) | ((with_reducible refine tot_done ?ht ?_); (case ht => kernel_rfl)) | ((with_reducible apply wps_text S); (case hm => kernel_rfl); (case hB => decide +kernel); clear S; intro wz S) | ((with_reducible apply wps_load S 0); (case hx | hi | hu => rfl); (case hT => decide +kernel))
          go_ret
          exact ⟨congrArg (fun b => Ending.returned (.bool b)) (decide_eq_false HN.out).symm, S.below⟩
      · obtain rfl : j = xs.length := by omega
        have HE : Hid (xs = ys) := Lib.hid (List.ext_getElem? fun q => by
          rcases Nat.lt_or_ge q xs.length with h | h
          · exact He.out q h
          · rw [List.getElem?_eq_none h, List.getElem?_eq_none (by have := HL.out; omega)])
        clear He
        go_wp2_with first | go_skip | ((with_reducible refine wpList_skip ?hw ?_); (case hw => with_unfolding_all rfl); simp only [Act.put, List.setIfInBounds_toArray, List.set_cons_succ, List.set_cons_zero]) | ((with_reducible refine tot_done ?ht ?_); (case ht => kernel_rfl)) | ((with_reducible apply wps_text S); (case hm => kernel_rfl); (case hB => decide +kernel); clear S; intro wz S) | ((with_reducible apply wps_load S 0); (case hx | hi | hu => rfl); (case hT => decide +kernel))
        go_ret
        exact ⟨congrArg (fun b => Ending.returned (.bool b)) (decide_eq_true HE.out).symm, S.below⟩
  · have hl2 : ((xs.length : Int) != ys.length) = true := by rw [bne_iff_ne]; omega
    have HN : Hid (xs ≠ ys) := Lib.hid fun e => hl (by rw [e])
    clear hl
    go_wp2_with first | go_skip | ((with_reducible refine wpList_skip ?hw ?_); (case hw => with_unfolding_all rfl); simp only [Act.put, List.setIfInBounds_toArray, List.set_cons_succ, List.set_cons_zero]) | ((with_reducible refine tot_done ?ht ?_); (case ht => kernel_rfl)) | ((with_reducible apply wps_text S); (case hm => kernel_rfl); (case hB => decide +kernel); clear S; intro wz S) | ((with_reducible apply wps_load S 0); (case hx | hi | hu => rfl); (case hT => decide +kernel))
    go_ret
    exact ⟨congrArg (fun b => Ending.returned (.bool b)) (decide_eq_false HN.out).symm, S.below⟩
end Go.Proofs.YtmjljoaakdocaaaGreatDoor
/- The walks of the script's Parse and the reference's (chapter 21). -/
namespace Go.Proofs.YtmjljoaakdocaaaGreatDoor
open Go Go.RowKit Reg Mem

def PaPost (E : TypeId) (q : List DoE × Nat × Int) (w : World) (e : Ending) (w' : World) : Prop :=
  (q.2.2 ≠ 0 ∧ e = .returned (.tuple #[.slice none 0 0, .int .i64 q.2.1, .int .i64 q.2.2]) ∧ Below w.heap.size w w') ∨
  (q.2.2 = 0 ∧ ∃ a c, e = .returned (.tuple #[.slice a q.1.length c, .int .i64 0, .int .i64 0]) ∧ St (fun _ => False) w w' [Own E docell 3 (.slice a q.1.length c) q.1])
def PaRel (v : Value) (ls : List (List UInt8)) (q : List DoE × Nat × Int) (w : World) (out i : Value) (L : List Asn) (wr : World) : Prop :=
  ∃ (k : Nat) (acc : List DoE), k ≤ ls.length ∧ i = .int .i64 k ∧ Hid (parseE (ls.drop k) k acc = q) ∧ acc.length ≤ 4096 ∧ St (fun _ => False) w wr (Own 23 docell 3 out acc :: Sl true strcell 1 v ls :: L)
def PaRel2 (acc : List DoE) (d : DoE) (n : Nat) (w : World) (out i : Value) (L : List Asn) (wr : World) : Prop :=
  ∃ j : Nat, j ≤ n ∧ i = .int .i64 j ∧ St (fun _ => False) w wr (Own 23 docell 3 out (acc ++ List.replicate j d) :: L)
theorem rep_snoc (acc : List DoE) (d : DoE) (j : Nat) : (acc ++ List.replicate j d) ++ [d] = acc ++ List.replicate (j + 1) d := by
  rw [List.append_assoc, ← List.replicate_succ']
set_option maxRecDepth 100000 in
set_option maxHeartbeats 16000000 in
theorem parse_calls (tE : TypeId) (pE : Value) (l : List UInt8) (w : World) (F F2 : Nat → Prop) (h : (LibA tE pE).at_ w F) (h2 : FormsT.at_ w F2) (hn : l.length ≤ 2147483647) :
    Calls Tryz.prog 44 #[strV l] w (PaPost 23 (parseT l) w) := by
  have S : St (fun _ => False) w w [LibA tE pE, FormsT] := ((St.init _ w).share (A := FormsT) rfl rfl h2).share (A := LibA tE pE) rfl rfl h
  clear h h2
  by_cases hbig : 65536 < l.length
  · have HR : Hid (parseT l = ([], 0, 11)) := Lib.hid (by unfold parseT; rw [if_pos hbig])
    have c1 : (65536 : Int) < l.length := by omega
    clear hbig
    go_enter Tryz.func44, Tryz.ntmps44
    go_wp2_with first | ((with_reducible apply wps_slen (T := 9)); (case hx => rfl); (case hT => exact Tryz.underlying9)) | ((with_reducible refine tot_done ?ht ?_); (case ht => kernel_rfl)) | ((with_reducible apply wps_alloca (E := 23) S); (case hz => exact Tryz.zeroValue23); clear S; intro bz wz S) | ((with_reducible apply wps_load S 0); (case hx | hi | hu => rfl); (case hT => decide +kernel)) | ((with_reducible apply wps_loada (T := 23) (k := 3) S 0); (case hx | hi => rfl); (case hk => exact Nat.le_of_ble_eq_true rfl); (case hT => decide +kernel))
    (try simp only [Exit.inBlock, Exit.then]); refine bodyPost_ret (results3 rfl (res_tmp rfl) (res_tmp rfl) (res_tmp rfl)) rfl ?_
    rw [HR.out]
    exact .inl ⟨by decide, rfl, S.below⟩
  · have HP : Hid (parseT l = parseE (splitGo 10 [] l) 0 []) := Lib.hid (by unfold parseT; rw [if_neg hbig])
    have c1 : ¬ ((65536 : Int) < l.length) := by omega
    have HC := Lib.hid (fun w F h => split_calls tE pE l w F h hn)
    have HSZ : Hid (∀ x ∈ splitGo 10 [] l, x.length ≤ 65536) := Lib.hid fun x hx => by have h9 := split_size 10 l [] x hx; simp only [List.length_nil] at h9; omega
    have hln : (splitGo 10 [] l).length ≤ 65537 := by
      have h9 := split_len 10 l []
      have h8 : l.count 10 ≤ l.length := List.count_le_length
      omega
    have hl0 : 0 < (splitGo 10 [] l).length := by rw [split_len]; omega
    generalize splitGo 10 [] l = ls at *
    generalize parseT l = q at *
    clear hbig
    replace S := S.nil 23 docell 3
    go_enter Tryz.func44, Tryz.ntmps44
    go_wp2_with first | ((with_reducible apply wps_slen (T := 9)); (case hx => rfl); (case hT => exact Tryz.underlying9)) | (go_at_call 74; refine Calls.mono (HC.out _ _ (S.get (i := 1) rfl).choose_spec) ?_; rintro e wz ⟨Rs, rfl, T⟩; replace S := S.join T rfl; clear T; simp only [List.cons_append, List.nil_append] at S) | ((with_reducible refine tot_done ?ht ?_); (case ht => kernel_rfl)) | ((with_reducible apply wps_alloca (E := 23) S); (case hz => exact Tryz.zeroValue23); clear S; intro bz wz S) | ((with_reducible apply wps_load S 0); (case hx | hi | hu => rfl); (case hT => decide +kernel)) | ((with_reducible apply wps_loada (T := 23) (k := 3) S 0); (case hx | hi => rfl); (case hk => exact Nat.le_of_ble_eq_true rfl); (case hT => decide +kernel))
    replace S := (S.freeze true 0 strcells rfl).pick [1, 0, 2, 3] rfl
    simp only [List.set_cons_zero, pick, nth] at S
    go_loopw [5, 17] (fun out i wr => PaRel _ ls q w out i [LibA tE pE, FormsT] wr) (fun _ i _ => ls.length - (intOf i).toNat)
    case atStart => exact ⟨0, [], Nat.zero_le _, rfl, Lib.hid (by rw [List.drop_zero]; exact HP.out.symm), by simp, S⟩
    case round =>
      clear S
      obtain ⟨k, acc, hk, rfl, HQ, hac, S⟩ := hrel
      obtain ⟨ao, co, rfl, _⟩ := (S.ownsl docells 0 rfl).elim fun _ h => h.form
      by_cases hlt : k < ls.length
      · have hlt2 : (k : Int) < ls.length := by omega
        obtain ⟨x, hx⟩ : ∃ x, ls[k]? = some x := ⟨_, List.getElem?_eq_getElem hlt⟩
        have hd : ls.drop k = x :: ls.drop (k + 1) := by rw [← (List.getElem?_eq_some_iff.1 hx).2]; exact List.drop_eq_getElem_cons hlt
        have HX := Lib.hid hx
        have HL := Lib.hid (fun w F F2 h h2 => line_calls tE pE x w F F2 h h2 (HSZ.out x (List.mem_of_getElem? hx)))
        have hnt := line_times (wordsOf x)
        have HQ2 := HQ.out
        rw [hd] at HQ2
        by_cases he : (lineE (wordsOf x)).2.2 = 0
        · by_cases hf : 4096 < acc.length + (lineE (wordsOf x)).2.1
          · rw [parse_full he hf] at HQ2
            have HR := Lib.hid HQ2.symm
            rw [he] at HL
            clear HQ2 HQ hd hx he
            generalize (lineE (wordsOf x)).1 = d at *
            generalize (lineE (wordsOf x)).2.1 = n at *
            have c2 : (4096 : Int) < acc.length + n := by omega
            as_aux_lemma =>
              go_wp2_with first | ((with_reducible apply wps_load_el S 1 (hj := HX.out) (q := 0) (u := strV x)); (case hx | hi => rfl); (case hn => omega); (case hu => rfl); (case hT => decide +kernel)) | (go_at_call 75; refine Calls.mono (HL.out _ _ _ (S.get (i := 2) rfl).choose_spec (S.get (i := 3) rfl).choose_spec) ?_; rintro e wz ⟨rfl, hE⟩; replace S := S.ext (Keep.of_below hE); clear hE) | ((with_reducible apply wps_alloca (E := 23) S); (case hz => exact Tryz.zeroValue23); clear S; intro bd wz S) | ((with_reducible apply wps_storea (T := 23) S 0 (vs := [.int .i64 d.what, .int .i64 d.a, .int .i64 d.b]) (m := 3)); (case hx | hy | hi | hm | h1 => rfl); (case hn => exact Nat.le_of_ble_eq_true rfl); (case hT => decide +kernel); clear S; intro wz S; simp only [List.set_cons_zero, List.set_cons_succ, setAll, List.setIfInBounds_toArray] at S) | ((with_reducible refine tot_done ?ht ?_); (case ht => kernel_rfl)) | ((with_reducible apply wps_alloca (E := 23) S); (case hz => exact Tryz.zeroValue23); clear S; intro bz wz S) | ((with_reducible apply wps_load S 0); (case hx | hi | hu => rfl); (case hT => decide +kernel)) | ((with_reducible apply wps_loada (T := 23) (k := 3) S 0); (case hx | hi => rfl); (case hk => exact Nat.le_of_ble_eq_true rfl); (case hT => decide +kernel))
              (try simp only [Exit.inBlock, Exit.then]); refine bodyPost_ret (results3 rfl (res_tmp rfl) (res_tmp rfl) (res_tmp rfl)) rfl ?_
              rw [HR.out]
              exact .inl ⟨(show (11 : Int) ≠ 0 by decide), rfl, S.below⟩
          · rw [parse_next he hf] at HQ2
            have HN := Lib.hid HQ2
            rw [he] at HL
            clear HQ2 HQ hd hx he
            generalize (lineE (wordsOf x)).1 = d at *
            generalize (lineE (wordsOf x)).2.1 = n at *
            have c2 : ¬ ((4096 : Int) < acc.length + n) := by omega
            have hln2 : acc.length + n ≤ 4096 := by omega
            clear hf
            as_aux_lemma =>
              go_wp2_with first | ((with_reducible apply wps_load_el S 1 (hj := HX.out) (q := 0) (u := strV x)); (case hx | hi => rfl); (case hn => omega); (case hu => rfl); (case hT => decide +kernel)) | (go_at_call 75; refine Calls.mono (HL.out _ _ _ (S.get (i := 2) rfl).choose_spec (S.get (i := 3) rfl).choose_spec) ?_; rintro e wz ⟨rfl, hE⟩; replace S := S.ext (Keep.of_below hE); clear hE) | ((with_reducible apply wps_alloca (E := 23) S); (case hz => exact Tryz.zeroValue23); clear S; intro bd wz S) | ((with_reducible apply wps_storea (T := 23) S 0 (vs := [.int .i64 d.what, .int .i64 d.a, .int .i64 d.b]) (m := 3)); (case hx | hy | hi | hm | h1 => rfl); (case hn => exact Nat.le_of_ble_eq_true rfl); (case hT => decide +kernel); clear S; intro wz S; simp only [List.set_cons_zero, List.set_cons_succ, setAll, List.setIfInBounds_toArray] at S) | ((with_reducible refine tot_done ?ht ?_); (case ht => kernel_rfl)) | ((with_reducible apply wps_alloca (E := 23) S); (case hz => exact Tryz.zeroValue23); clear S; intro bz wz S) | ((with_reducible apply wps_load S 0); (case hx | hi | hu => rfl); (case hT => decide +kernel)) | ((with_reducible apply wps_loada (T := 23) (k := 3) S 0); (case hx | hi => rfl); (case hk => exact Nat.le_of_ble_eq_true rfl); (case hT => decide +kernel))
              replace S := S.pick [1, 0, 2, 3, 4] rfl
              simp only [pick, nth] at S
              go_loopw [5, 41] (fun out i wr => PaRel2 acc d n w out i _ wr) (fun _ i _ => n - (intOf i).toNat)
              case atStart => exact ⟨0, Nat.zero_le _, rfl, by rw [List.replicate_zero, List.append_nil]; exact S⟩
              case round =>
                clear S
                obtain ⟨j, hj, rfl, S⟩ := hrel
                obtain ⟨ap, cp, rfl, _⟩ := (S.ownsl docells 0 rfl).elim fun _ h => h.form
                by_cases hjt : j < n
                · have hjt2 : (j : Int) < n := by omega
                  have HRS := Lib.hid (rep_snoc acc d j)
                  have hrl : (acc ++ List.replicate j d).length < 4294967296 := by simp; omega
                  generalize acc ++ List.replicate j d = ac2 at *
                  go_wp2_with first | ((with_reducible apply wps_loada (T := 23) (k := 3) S 1); (case hx | hi => rfl); (case hk => exact Nat.le_of_ble_eq_true rfl); (case hT => decide +kernel)) | ((with_reducible apply wps_build1a (T := 90) (E := 23) S); (case hx => rfl); (case hr => intro w; kernel_rfl); clear S; intro bz wz S) | ((with_reducible apply wps_append1 elem_KD docells doone (by decide) S 1 (j := 0) (e := d)); (case hx | hy | hi | hj | he => rfl); (case hl => first | omega | (simp; omega)); clear S; intro az nz cz wz hnz S; simp only [List.set_cons_succ, List.set_cons_zero] at S) | ((with_reducible refine tot_done ?ht ?_); (case ht => kernel_rfl)) | ((with_reducible apply wps_alloca (E := 23) S); (case hz => exact Tryz.zeroValue23); clear S; intro bz wz S) | ((with_reducible apply wps_load S 0); (case hx | hi | hu => rfl); (case hT => decide +kernel)) | ((with_reducible apply wps_loada (T := 23) (k := 3) S 0); (case hx | hi => rfl); (case hk => exact Nat.le_of_ble_eq_true rfl); (case hT => decide +kernel)) | ((with_reducible apply wps_load S 1); (case hx | hi | hu => rfl); (case hT => decide +kernel)) | ((with_reducible apply wps_loada (T := 23) (k := 3) S 1); (case hx | hi => rfl); (case hk => exact Nat.le_of_ble_eq_true rfl); (case hT => decide +kernel))
                  go_roundw
                  case rel => exact ⟨j + 1, by omega, by go_num, by rw [← HRS.out]; exact S.pick [1, 2, 3, 4, 5] rfl⟩
                  case measure => first | (simp [intOf]; done) | (simp [intOf]; omega)
                · obtain rfl : j = n := by omega
                  have hrl : (acc ++ List.replicate j d).length ≤ 4096 := by simp; omega
                  go_wp2_with first | ((with_reducible refine tot_done ?ht ?_); (case ht => kernel_rfl)) | ((with_reducible apply wps_alloca (E := 23) S); (case hz => exact Tryz.zeroValue23); clear S; intro bz wz S) | ((with_reducible apply wps_load S 0); (case hx | hi | hu => rfl); (case hT => decide +kernel)) | ((with_reducible apply wps_loada (T := 23) (k := 3) S 0); (case hx | hi => rfl); (case hk => exact Nat.le_of_ble_eq_true rfl); (case hT => decide +kernel))
                  go_roundw
                  case rel => exact ⟨k + 1, acc ++ List.replicate j d, by omega, by go_num, HN, hrl, S.pick [0, 2, 3, 4] rfl⟩
                  case measure => first | (simp [intOf]; done) | (simp [intOf]; omega)
        · rw [parse_bad he] at HQ2
          have HR := Lib.hid HQ2.symm
          have c2 : ((lineE (wordsOf x)).2.2 != 0) = true := by rw [bne_iff_ne]; exact he
          have HE0 := Lib.hid he
          clear HQ2 HQ hd hx he
          generalize (lineE (wordsOf x)).1 = d at *
          generalize (lineE (wordsOf x)).2.1 = n at *
          generalize (lineE (wordsOf x)).2.2 = er at *
          as_aux_lemma =>
            go_wp2_with first | ((with_reducible apply wps_load_el S 1 (hj := HX.out) (q := 0) (u := strV x)); (case hx | hi => rfl); (case hn => omega); (case hu => rfl); (case hT => decide +kernel)) | (go_at_call 75; refine Calls.mono (HL.out _ _ _ (S.get (i := 2) rfl).choose_spec (S.get (i := 3) rfl).choose_spec) ?_; rintro e wz ⟨rfl, hE⟩; replace S := S.ext (Keep.of_below hE); clear hE) | ((with_reducible apply wps_alloca (E := 23) S); (case hz => exact Tryz.zeroValue23); clear S; intro bd wz S) | ((with_reducible apply wps_storea (T := 23) S 0 (vs := [.int .i64 d.what, .int .i64 d.a, .int .i64 d.b]) (m := 3)); (case hx | hy | hi | hm | h1 => rfl); (case hn => exact Nat.le_of_ble_eq_true rfl); (case hT => decide +kernel); clear S; intro wz S; simp only [List.set_cons_zero, List.set_cons_succ, setAll, List.setIfInBounds_toArray] at S) | ((with_reducible refine tot_done ?ht ?_); (case ht => kernel_rfl)) | ((with_reducible apply wps_alloca (E := 23) S); (case hz => exact Tryz.zeroValue23); clear S; intro bz wz S) | ((with_reducible apply wps_load S 0); (case hx | hi | hu => rfl); (case hT => decide +kernel)) | ((with_reducible apply wps_loada (T := 23) (k := 3) S 0); (case hx | hi => rfl); (case hk => exact Nat.le_of_ble_eq_true rfl); (case hT => decide +kernel))
            (try simp only [Exit.inBlock, Exit.then]); refine bodyPost_ret (results3 rfl (res_tmp rfl) (res_tmp rfl) (res_tmp rfl)) rfl ?_
            rw [HR.out]
            exact .inl ⟨HE0.out, rfl, S.below⟩
      · obtain rfl : k = ls.length := by omega
        have HQ2 := HQ.out
        rw [List.drop_length, parseE] at HQ2
        clear HQ
        subst HQ2
        go_wp2_with first | ((with_reducible refine tot_done ?ht ?_); (case ht => kernel_rfl)) | ((with_reducible apply wps_alloca (E := 23) S); (case hz => exact Tryz.zeroValue23); clear S; intro bz wz S) | ((with_reducible apply wps_load S 0); (case hx | hi | hu => rfl); (case hT => decide +kernel)) | ((with_reducible apply wps_loada (T := 23) (k := 3) S 0); (case hx | hi => rfl); (case hk => exact Nat.le_of_ble_eq_true rfl); (case hT => decide +kernel))
        (try simp only [Exit.inBlock, Exit.then]); refine bodyPost_ret (results3 rfl (res_tmp rfl) (res_tmp rfl) (res_tmp rfl)) rfl ?_
        exact .inr ⟨rfl, _, _, rfl, S.pick [0] rfl⟩
end Go.Proofs.YtmjljoaakdocaaaGreatDoor
/- The walks of the laws ScriptReads and ScriptLines. -/
namespace Go.Proofs.YtmjljoaakdocaaaGreatDoor
open Go Go.RowKit Reg Mem

theorem parseT_wrong {l : List UInt8} (h : (parseT l).2.2 ≠ 0) : (parseT l).1 = [] := by
  unfold parseT at *
  split
  · rfl
  · rename_i g; rw [if_neg g] at h; exact (parse_wrong _ _ _ h).1
theorem parseT_right {l : List UInt8} (h : (parseT l).2.2 = 0) : (parseT l).2.1 = 0 := by
  unfold parseT at *
  split
  · rfl
  · rename_i g; rw [if_neg g] at h; exact parse_right _ _ _ h
def PaPost2 (E : TypeId) (q : List DoE × Nat × Int) (w : World) (e : Ending) (w' : World) : Prop :=
  ∃ a c, e = .returned (.tuple #[.slice a q.1.length c, .int .i64 q.2.1, .int .i64 q.2.2]) ∧ St (fun _ => False) w w' [Own E docell 3 (.slice a q.1.length c) q.1]
theorem pa_two {E : TypeId} {l : List UInt8} {w : World} {e : Ending} {w' : World} (h : PaPost E (parseT l) w e w') : PaPost2 E (parseT l) w e w' := by
  rcases h with ⟨h0, rfl, hE⟩ | ⟨h0, a, c, rfl, S⟩
  · refine ⟨none, 0, ?_, ?_⟩
    · rw [parseT_wrong h0]; rfl
    · rw [parseT_wrong h0]
      exact ((St.init _ w).nil E docell 3).ext (Keep.of_below hE)
  · refine ⟨a, c, ?_, S⟩
    rw [parseT_right h0, h0]; rfl
theorem Mem.St.ownThree {b : Nat} {E : TypeId} {G : Nat → Prop} {w0 w : World} {L : List Asn} (x y z : DoE) (S : St G w0 w (Blk false b #[.int .i64 x.what, .int .i64 x.a, .int .i64 x.b, .int .i64 y.what, .int .i64 y.a, .int .i64 y.b, .int .i64 z.what, .int .i64 z.a, .int .i64 z.b] E :: L)) :
    St G w0 w (Own E docell 3 (.slice (some ⟨b, 0, none⟩) 3 3) [x, y, z] :: L) := by
  have := S.same (i := 0) (A' := Own E docell 3 (.slice (some ⟨b, 0, none⟩) 3 3) [x, y, z]) rfl (fun F h => ⟨⟨by simp [flatE, docell], .inr ⟨b, 3, _, rfl, Nat.zero_le _, h.1, Nat.le_refl _, by simp [maxLen], by simp, by simp [flatE, docell]⟩⟩, fun x => by rw [h.2 x]; simp [Value.ownBlock, eq_comm]⟩) rfl
  simpa using this
theorem aw_one : parseT [115, 116, 101, 112, 32, 48, 32, 120, 51] = ([⟨0, 0, 0⟩, ⟨0, 0, 0⟩, ⟨0, 0, 0⟩], 0, 0) := by kernel_rfl
theorem aw_v1 : strV [115, 116, 101, 112, 32, 48, 32, 120, 51] = Value.string { data := #[115, 116, 101, 112, 32, 48, 32, 120, 51] } := by kernel_rfl
theorem aw_v2 : strV [114, 111, 117, 110, 100, 10, 100, 101, 108, 105, 118, 101, 114, 32, 50] = Value.string { data := #[114, 111, 117, 110, 100, 10, 100, 101, 108, 105, 118, 101, 114, 32, 50] } := by kernel_rfl
theorem dsame_self (v1 v2 : Value) (xs : List DoE) (w : World) (F1 F2 : Nat → Prop) (h1 : (Sl true docell 3 v1 xs).at_ w F1) (h2 : (Sl true docell 3 v2 xs).at_ w F2) (hn : xs.length ≤ 65536) :
    Calls Tryz.prog 45 #[v1, v2] w fun r w' => r = .returned (.bool true) ∧ Below w.heap.size w w' :=
  (dsame_calls v1 v2 xs xs w F1 F2 h1 h2 hn hn).mono fun _ _ h => ⟨by rw [h.1, decide_eq_true rfl], h.2⟩
theorem aw_two : parseT [114, 111, 117, 110, 100, 10, 100, 101, 108, 105, 118, 101, 114, 32, 50] = ([], 2, 15) := by kernel_rfl
set_option maxRecDepth 100000 in
set_option maxHeartbeats 16000000 in
theorem awake21_calls (tE : TypeId) (pE : Value) (w : World) (F F2 : Nat → Prop) (h : (LibA tE pE).at_ w F) (h2 : FormsT.at_ w F2) : Calls Tryz.prog 20 #[] w fun e w' => e = .returned (.bool true) ∧ Below w.heap.size w w' := by
  have S : St (fun _ => False) w w [LibA tE pE, FormsT] := ((St.init _ w).share (A := FormsT) rfl rfl h2).share (A := LibA tE pE) rfl rfl h
  clear h h2
  have H1 := Lib.hid (fun w F F2 h h2 => Calls.mono (parse_calls tE pE [115, 116, 101, 112, 32, 48, 32, 120, 51] w F F2 h h2 (by decide)) fun e w' h => pa_two h)
  have H2 := Lib.hid (fun w F F2 h h2 => Calls.mono (parse_calls tE pE [114, 111, 117, 110, 100, 10, 100, 101, 108, 105, 118, 101, 114, 32, 50] w F F2 h h2 (by decide)) fun e w' h => pa_two h)
  rw [aw_one, aw_v1] at H1
  rw [aw_two, aw_v2] at H2
  go_enter Tryz.func20, Tryz.ntmps20
  go_upto_region 3 with first | go_skip | ((with_reducible refine wpList_skip ?hw ?_); (case hw => with_unfolding_all rfl); simp only [Act.put, List.setIfInBounds_toArray, List.set_cons_succ, List.set_cons_zero]) | (go_at_call 44; obtain ⟨Fl, hLi⟩ := S.get (i := 0) rfl; obtain ⟨Ff, hFo⟩ := S.get (i := 1) rfl; (with_reducible refine Calls.mono (H1.out _ _ _ hLi hFo) ?_); clear hLi hFo; rintro e wz ⟨aa, ca, rfl, T⟩; replace S := (S.join T rfl).freeze true 0 docells rfl; clear T; simp only [List.cons_append, List.nil_append, List.set_cons_zero] at S) | (go_at_call 44; obtain ⟨Fl, hLi⟩ := S.get (i := 1) rfl; obtain ⟨Ff, hFo⟩ := S.get (i := 2) rfl; (with_reducible refine Calls.mono (H2.out _ _ _ hLi hFo) ?_); clear hLi hFo; rintro e wz ⟨ab, cb, rfl, T⟩; replace S := (S.join T rfl); clear T; simp only [List.cons_append, List.nil_append] at S) | ((with_reducible refine tot_done ?ht ?_); (case ht => kernel_rfl))
  go_wp2_with first | go_skip | ((with_reducible refine wpList_skip ?hw ?_); (case hw => with_unfolding_all rfl); simp only [Act.put, List.setIfInBounds_toArray, List.set_cons_succ, List.set_cons_zero]) | ((with_reducible apply wps_buildSlice (T := 124) (E := 123) (cs := #[.int .i64 0, .int .i64 0, .int .i64 0, .int .i64 0, .int .i64 0, .int .i64 0, .int .i64 0, .int .i64 0, .int .i64 0]) S); (case hr => intro w; kernel_rfl); clear S; intro bz wz S) | (go_at_call 45; replace S := (Mem.St.ownThree ⟨0, 0, 0⟩ ⟨0, 0, 0⟩ ⟨0, 0, 0⟩ S).freeze true 0 docells rfl; simp only [List.set_cons_zero] at S; refine Calls.mono (dsame_self _ _ [⟨0, 0, 0⟩, ⟨0, 0, 0⟩, ⟨0, 0, 0⟩] _ _ _ (S.get (i := 2) rfl).choose_spec (S.get (i := 0) rfl).choose_spec (by decide)) ?_; rintro e wz ⟨rfl, hE⟩; replace S := S.ext (Keep.of_below hE); clear hE) | ((with_reducible refine tot_done ?ht ?_); (case ht => kernel_rfl))
  go_ret
  exact ⟨rfl, S.below⟩
end Go.Proofs.YtmjljoaakdocaaaGreatDoor
/- The walks of script's Run and Calm with no kernel; the law's ScriptNil. -/
namespace Go.Proofs.YtmjljoaakdocaaaGreatDoor
open Go Go.RowKit Reg Mem

set_option maxRecDepth 100000 in
theorem srun_nil (s : Value) (w : World) : Calls Tryz.prog 21 #[.pointer none, s] w fun e w' => e = .returned (.tuple #[.agg #[.int .i64 0, .int .i64 0, .int .i64 0], .int .i64 2]) ∧ Below w.heap.size w w' := by
  have S := St.init (fun _ => False) w
  go_enter Tryz.func21, Tryz.ntmps21
  go_wp2_with first | ((with_reducible apply wps_alloca (E := 68) S); (case hz => exact Tryz.zeroValue68); clear S; intro b4 wz S) | ((with_reducible refine tot_done ?ht ?_); (case ht => kernel_rfl)) | ((with_reducible apply wps_alloca (E := 23) S); (case hz => exact Tryz.zeroValue23); clear S; intro bz wz S) | ((with_reducible apply wps_alloca (E := 68) S); (case hz => exact Tryz.zeroValue68); clear S; intro bz wz S) | ((with_reducible apply wps_load S 0); (case hx | hi | hu => rfl); (case hT => decide +kernel)) | ((with_reducible apply wps_loada (T := 23) (k := 3) S 0); (case hx | hi => rfl); (case hk => exact Nat.le_of_ble_eq_true rfl); (case hT => decide +kernel)) | ((with_reducible apply wps_loada (T := 68) (k := 3) S 0); (case hx | hi => rfl); (case hk => exact Nat.le_of_ble_eq_true rfl); (case hT => decide +kernel))
  go_step3
  go_wp2_with first | ((with_reducible apply wps_storea (T := 68) S 0 (vs := [.int .i64 0, .int .i64 0, .int .i64 0]) (m := 3)); (case hx | hy | hi | hm | h1 => rfl); (case hn => exact Nat.le_of_ble_eq_true rfl); (case hT => decide +kernel); clear S; intro wz S; simp only [List.set_cons_zero, List.set_cons_succ, setAll, List.setIfInBounds_toArray] at S) | ((with_reducible refine tot_done ?ht ?_); (case ht => kernel_rfl)) | ((with_reducible apply wps_alloca (E := 23) S); (case hz => exact Tryz.zeroValue23); clear S; intro bz wz S) | ((with_reducible apply wps_alloca (E := 68) S); (case hz => exact Tryz.zeroValue68); clear S; intro bz wz S) | ((with_reducible apply wps_load S 0); (case hx | hi | hu => rfl); (case hT => decide +kernel)) | ((with_reducible apply wps_loada (T := 23) (k := 3) S 0); (case hx | hi => rfl); (case hk => exact Nat.le_of_ble_eq_true rfl); (case hT => decide +kernel)) | ((with_reducible apply wps_loada (T := 68) (k := 3) S 0); (case hx | hi => rfl); (case hk => exact Nat.le_of_ble_eq_true rfl); (case hT => decide +kernel))
  try rw [Exit.noGoto_ret]
  (try simp only [Exit.inBlock, Exit.then]); refine bodyPost_ret (results2 rfl (S.resA 0 rfl rfl (by kernel_rfl)) (res_tmp rfl)) rfl ?_
  exact ⟨rfl, S.below⟩
set_option maxRecDepth 100000 in
theorem scalm_nil (a b : Value) (w : World) : Calls Tryz.prog 22 #[.pointer none, a, b] w fun e w' => e = .returned (.tuple #[.int .i64 0, .bool false]) ∧ Below w.heap.size w w' := by
  have S := St.init (fun _ => False) w
  go_enter Tryz.func22, Tryz.ntmps22
  go_wp2_with first | go_skip | ((with_reducible refine wpList_skip ?hw ?_); (case hw => with_unfolding_all rfl); simp only [Act.put, List.setIfInBounds_toArray, List.set_cons_succ, List.set_cons_zero]) | ((with_reducible refine tot_done ?ht ?_); (case ht => kernel_rfl))
  (try simp only [Exit.inBlock, Exit.then]); refine bodyPost_ret (results2 rfl (res_tmp rfl) (res_tmp rfl)) rfl ?_
  exact ⟨rfl, S.below⟩
set_option maxRecDepth 100000 in
set_option maxHeartbeats 8000000 in
theorem snil_calls (tE : TypeId) (pE : Value) (l : List UInt8) (a b : Int) (w : World) (F F2 : Nat → Prop) (hLib : (LibA tE pE).at_ w F) (hF : FormsT.at_ w F2) :
    Calls Tryz.prog 5 #[strV l, .int .i64 a, .int .i64 b] w fun e w' => e = .returned (.bool true) ∧ Below w.heap.size w w' := by
  have S : St (fun _ => False) w w [FormsT, LibA tE pE] := ((St.init _ w).share rfl rfl hLib).share rfl rfl hF
  clear hLib hF
  have HE : Hid (ceqs [.int .i64 0, .int .i64 0, .int .i64 0] [.int .i64 0, .int .i64 0, .int .i64 0] = true) := Lib.hid (by decide)
  by_cases hl : l.length > 100
  · have h1 : decide ((l.length : Int) > 100) = true := by simp; omega
    clear hl
    go_enter Tryz.func5, Tryz.ntmps5
    go_wp2_with first | go_skip | ((with_reducible refine wpList_skip ?hw ?_); (case hw => with_unfolding_all rfl); simp only [Act.put, List.setIfInBounds_toArray, List.set_cons_succ, List.set_cons_zero]) | ((with_reducible apply wps_slen (T := 9)); (case hx => rfl); (case hT => exact Tryz.underlying9)) | (go_at_call 20; refine Calls.mono (awake21_calls tE pE _ _ _ (S.get (i := 1) rfl).choose_spec (S.get (i := 0) rfl).choose_spec) ?_; rintro e wz ⟨rfl, hE⟩; replace S := S.ext (Keep.of_below hE); clear hE) | ((with_reducible refine tot_done ?ht ?_); (case ht => kernel_rfl)) | ((with_reducible apply wps_alloca (E := 68) S); (case hz => exact Tryz.zeroValue68); clear S; intro bz wz S) | ((with_reducible apply wps_loada (T := 68) (k := 3) S 0); (case hx | hi => rfl); (case hk => exact Nat.le_of_ble_eq_true rfl); (case hT => decide +kernel))
    go_ret
    exact ⟨rfl, S.below⟩
  · have h1 : decide ((l.length : Int) > 100) = false := by simp; omega
    clear hl
    go_enter Tryz.func5, Tryz.ntmps5
    go_wp2_with first | go_skip | ((with_reducible refine wpList_skip ?hw ?_); (case hw => with_unfolding_all rfl); simp only [Act.put, List.setIfInBounds_toArray, List.set_cons_succ, List.set_cons_zero]) | ((with_reducible apply wps_slen (T := 9)); (case hx => rfl); (case hT => exact Tryz.underlying9)) | (go_at_call 21; refine Calls.mono (srun_nil _ _) ?_; rintro e wz ⟨rfl, hE⟩; replace S := S.ext (Keep.of_below hE); clear hE) | (go_at_call 22; refine Calls.mono (scalm_nil _ _ _) ?_; rintro e wz ⟨rfl, hE⟩; replace S := S.ext (Keep.of_below hE); clear hE) | ((with_reducible apply wps_alloca (E := 68) S); (case hz => exact Tryz.zeroValue68); clear S; intro b7 wz S) | ((with_reducible apply wps_storea (T := 68) S 0 (vs := [.int .i64 0, .int .i64 0, .int .i64 0]) (m := 3)); (case hx | hy | hi | hm | h1 => rfl); (case hn => exact Nat.le_of_ble_eq_true rfl); (case hT => decide +kernel); clear S; intro wz S; simp only [List.set_cons_zero, List.set_cons_succ, setAll, List.setIfInBounds_toArray] at S) | ((with_reducible apply wps_loada (T := 68) (k := 3) S 0); (case hx | hi => rfl); (case hk => exact Nat.le_of_ble_eq_true rfl); (case hT => decide +kernel)) | ((with_reducible apply wpList_eql_agg (t := 68) (ks := [.int .i64, .int .i64, .int .i64]) (b := _)); (case hx | hy => rfl); (case hl | ha | hg => kernel_rfl); (case hfx | hfy => rfl); (case hb => exact HE.out)) | (go_at_call 20; refine Calls.mono (awake21_calls tE pE _ _ _ (S.get (i := 2) rfl).choose_spec (S.get (i := 1) rfl).choose_spec) ?_; rintro e wz ⟨rfl, hE⟩; replace S := S.ext (Keep.of_below hE); clear hE) | ((with_reducible refine tot_done ?ht ?_); (case ht => kernel_rfl)) | ((with_reducible apply wps_alloca (E := 68) S); (case hz => exact Tryz.zeroValue68); clear S; intro bz wz S) | ((with_reducible apply wps_loada (T := 68) (k := 3) S 0); (case hx | hi => rfl); (case hk => exact Nat.le_of_ble_eq_true rfl); (case hT => decide +kernel))
    go_ret
    exact ⟨rfl, S.below⟩
end Go.Proofs.YtmjljoaakdocaaaGreatDoor
/- Opening a law's arguments: a value that reads as data, of a type whose cells are all plain, or a slice of such; and the row's last step where all below is as it was. -/
namespace Go.Proofs.YtmjljoaakdocaaaGreatDoor.Mem
open Go.RowKit Go.WideShapes Go.ChangeShapes Go.Deep
section
variable {H : Type} {enc : TypeId × Value → H} {P : Program} {w : World} {base : Nat} {spare : Nat → Bool} {held : Bool}
def wfv : Value → Bool
  | .int k n => (Lit.int k n).wf
  | .string s => decide (s.size ≤ maxLen)
  | _ => true
theorem post_of_below {f : Func} {s : ChangeSpec} {apart fresh handsOn again : Bool} {W W' : World} {args : Array Value} {v : Value} {ds gs : List (DataW H)} {before pa pv : List MemPlace}
    (hW : DataW.Whole enc P f.params.toList s.vars apart W args.toList ds gs before)
    (hres : ∀ (b : Nat) (sp : Nat → Bool) (hd : Bool), DataW.TrodAll enc P W' b sp hd f.resultTypes.toList (v.resultList f.resultTypes.size) (s.fn H (ds ++ gs)).results [])
    (hargs : ∀ sp : Nat → Bool, (∀ p ∈ before, sp p.block = true) → DataW.TrodAll enc P W' 0 sp true f.params.toList args.toList (s.fn H (ds ++ gs)).args pa)
    (hvars : ∀ sp : Nat → Bool, (∀ p ∈ before, sp p.block = true) → DataW.TrodVars enc P W' sp s.vars (s.fn H (ds ++ gs)).vars pv)
    (hps : before = pa ++ pv) (hb : Below W.heap.size W W')
    (hok : ∀ (j : Nat) (t : TypeId) (r : Value), f.resultTypes[j]? = some t → (v.resultList f.resultTypes.size)[j]? = some r → Value.okWide P W' .any 0 t r) :
    s.post enc P f apart fresh handsOn again W args v W' := by
  have hlt : ∀ p ∈ before, p.block < W.heap.size := fun p hp => hW.lt p hp
  have hold : ∀ p ∈ before, (fun b => decide (b < W.heap.size)) p.block = true := fun p hp => by simpa using hlt p hp
  refine ⟨ds, gs, before, [], pa, pv, hW, hres _ _ _, hargs _ hold, hvars _ hold, World.keptBut_mono (fun p hp => ⟨hp, ?_⟩) (hb.to.frame (· ∈ before)), fun _ => ?_⟩
  · rw [hps, List.mem_append] at hp
    exact Or.inr hp
  · obtain ⟨_, _, _, _, _, hz, hn⟩ := hW
    refine ⟨hok, _, _, ([] ++ pa) ++ pv, ⟨[] ++ pa, pv, trodAll_append (hargs _ (fun _ _ => rfl)) (hres _ _ _), hvars _ (fun _ _ => rfl), rfl, ?_, ?_⟩, ?_⟩
    · intro b off hp
      have hin : MemPlace.cell b off ∈ before := by rw [hps]; simpa using hp
      rw [hb.frozen (hlt _ hin)]
      exact hz b off hin
    · intro ha
      have := hn ha
      rw [hps] at this
      simpa using this
    · intro p hp _
      rw [hps]
      simpa using hp
theorem trodAll_stays (hl : laidOutB P = true) {W W' : World} (hb : Below W.heap.size W W') {sp : Nat → Bool} : ∀ (ts : List TypeId) (vs : List Value) (ds : List (DataW H)) (ps : List MemPlace),
    ts.all (fun t => P.readableRec t && decide (t < P.types.size)) = true → DataW.TrodAll enc P W 0 (fun _ => true) true ts vs ds ps → (∀ x ∈ ps, x.block < W.heap.size) → (∀ x ∈ ps, sp x.block = true) → DataW.TrodAll enc P W' 0 sp true ts vs ds ps
  | [], [], [], _, _, h, _, _ => h
  | t :: ts, v :: vs, d :: ds, ps, hr, h, hlt, hsp => by
    obtain ⟨p, q, h1, h2, rfl⟩ := h
    simp only [List.all_cons, Bool.and_eq_true, decide_eq_true_eq] at hr
    refine ⟨p, q, ?_, trodAll_stays hl hb ts vs ds q hr.2 h2 (fun x hx => hlt x (List.mem_append_right _ hx)) (fun x hx => hsp x (List.mem_append_right _ hx)), rfl⟩
    exact WideElems.Trod_stays hl hr.1.1 hr.1.2 h1 (fun x hx => hb.to.same (hlt x (List.mem_append_left _ hx))) (fun x hx => hsp x (List.mem_append_left _ hx))
  | [], [], _ :: _, _, _, h, _, _ => h.elim
  | [], _ :: _, _, _, _, h, _, _ => h.elim
  | _ :: _, [], _, _, _, h, _, _ => h.elim
  | _ :: _, _ :: _, [], _, _, h, _, _ => h.elim
end
end Go.Proofs.YtmjljoaakdocaaaGreatDoor.Mem

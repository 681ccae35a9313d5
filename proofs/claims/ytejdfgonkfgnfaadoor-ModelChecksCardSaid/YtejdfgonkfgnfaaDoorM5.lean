import Derived.Test.YtejdfgonkfgnfaaDoorC5
import Derived.Test.YtejdfgonkfgnfaaDoorAny2
/- The walks of boomeranglaw05.Plain and the law's same. -/
namespace Go.Proofs.YtejdfgonkfgnfaaDoor
open Go Go.RowKit Reg Mem

set_option maxRecDepth 100000 in
theorem elem_RIn : Elem Tryd.prog 48 79 5 40 := ⟨_, .agg #[.int .i64 0, .int .i64 0, .int .i64 0, .int .i64 0, .int .i64 0], Tryd.underlying48, rfl, by kernel_rfl, by kernel_rfl, by kernel_rfl, by kernel_rfl, by omega⟩
def PlRel (v out : Value) (p : List Instr) (w : World) (i : Value) (wr : World) : Prop :=
  ∃ j : Nat, j ≤ p.length ∧ i = .int .i64 j ∧ St (fun _ => False) w wr [Own 79 Instr.cells 5 out (p.take j), Sl true Instr.cells 5 v p]
/-- What Plain leaves. -/
def PlainPost (p : List Instr) (w : World) (e : Ending) (w' : World) : Prop :=
  ∃ ad c, e = .returned (.slice ad p.length c) ∧ St (fun _ => False) w w' [Own 79 Instr.cells 5 (.slice ad p.length c) p]
set_option maxRecDepth 100000 in
set_option maxHeartbeats 4000000 in
theorem lplain_calls (v : Value) (p : List Instr) (w : World) (F : Nat → Prop) (h : (Sl true Instr.cells 5 v p).at_ w F) (hn : p.length ≤ 65536) : Calls Tryd.prog 16 #[v] w (PlainPost p w) := by
  have S : St (fun _ => False) w w [Sl true Instr.cells 5 v p] := (St.init _ w).share rfl rfl h
  obtain ⟨ad, cp, rfl, _⟩ := (S.sl 0 rfl).elim fun _ h => h.form
  clear h
  replace S := S.nil 79 Instr.cells 5
  go_enter Tryd.func16, Tryd.ntmps16
  go_wp2_with first
    | ((with_reducible refine tot_done ?ht ?_); (case ht => kernel_rfl))
    | ((with_reducible apply wps_text S); (case hm => kernel_rfl); (case hB => decide +kernel); clear S; intro wz S)
    | ((with_reducible apply wps_load S 0); (case hx => rfl); (case hi => rfl); (case hT => decide +kernel); (case hu => rfl))
  go_loopw [3, 4] (fun out i wr => PlRel (.slice ad p.length cp) out p w i wr) (fun _ i _ => p.length - (intOf i).toNat)
  case atStart => exact ⟨0, Nat.zero_le _, rfl, S⟩
  case round =>
    clear S
    obtain ⟨j, hj, rfl, S⟩ := hrel
    obtain ⟨F0, hF0⟩ := S.get (i := 0) rfl
    obtain ⟨ad0, c0, rfl⟩ := hF0.1.form
    clear hF0
    by_cases hlt : j < p.length
    · obtain ⟨x, hx⟩ : ∃ x, p[j]? = some x := ⟨_, List.getElem?_eq_getElem hlt⟩
      obtain ⟨R, o, rfl⟩ : ∃ R o, ad = some ⟨R, o, none⟩ := (S.sl 1 rfl).elim fun F h => h.head (by omega)
      have hlt2 : (j : Int) < p.length := by omega
      have HT : Hid (p.take (j + 1) = p.take j ++ [x]) := by show _ = _; rw [List.take_add_one, hx]; rfl
      have htl : (p.take j).length ≤ 65536 := by simp; omega
      have hlj : (p.take j).length = j := by simp; omega
      rw [hlj] at S
      rw [hlj]
      have Hx := Lib.hid hx
      have Hlj := Lib.hid hlj
      clear hx hlj
      go_wp2_with first
        | ((with_reducible refine tot_done ?ht ?_); (case ht => kernel_rfl))
        | ((with_reducible apply wps_load S 0); (case hx => rfl); (case hi => rfl); (case hT => decide +kernel); (case hu => rfl))
      replace S := S.pick [1, 0] rfl
      simp only [pick, nth] at S
      (refine wp_region_wt (soft := [0, 1, 2, 3, 4, 5, 6, 7, 8, 9, 10, 11, 12, 13, 14, 15, 16, 17, 18, 19, 20, 21, 22, 23, 24, 25, 26]) (L := [_]) (T := [_]) S ?hm ?hB ?_); (case hm => kernel_rfl); (case hB => decide +kernel); clear S
      iterate 27
        (with_reducible apply softs_cons)
        (case hw =>
          (with_reducible apply soft_of); (case hi => rfl)
          intro T wz S
          simp only [List.cons_append, List.nil_append] at S
          go_wp2_with first
            | ((with_reducible apply wps_loada_el S 0 (hj := Hx.out) (q := 0) (vs := [.int .i64 x.op, .int .i64 x.a, .int .i64 x.b, .int .i64 x.c, .int .i64 x.d]) (m := 5)); (case hx => rfl); (case hT => decide +kernel); (case hi => rfl); (case hn => omega); (case hm => rfl); (case hv => rfl))
            | ((with_reducible apply wps_load_el S 0 (hj := Hx.out) (q := 0) (u := .int .i64 x.op)); (case hx => rfl); (case hi => rfl); (case hn => omega); (case hT => decide +kernel); (case hu => rfl))
            | ((with_reducible apply wps_load_el S 0 (hj := Hx.out) (q := 1) (u := .int .i64 x.a)); (case hx => rfl); (case hi => rfl); (case hn => omega); (case hT => decide +kernel); (case hu => rfl))
            | ((with_reducible apply wps_load_el S 0 (hj := Hx.out) (q := 2) (u := .int .i64 x.b)); (case hx => rfl); (case hi => rfl); (case hn => omega); (case hT => decide +kernel); (case hu => rfl))
            | ((with_reducible apply wps_load_el S 0 (hj := Hx.out) (q := 3) (u := .int .i64 x.c)); (case hx => rfl); (case hi => rfl); (case hn => omega); (case hT => decide +kernel); (case hu => rfl))
            | ((with_reducible apply wps_load_el S 0 (hj := Hx.out) (q := 4) (u := .int .i64 x.d)); (case hx => rfl); (case hi => rfl); (case hn => omega); (case hT => decide +kernel); (case hu => rfl))
            | ((with_reducible refine tot_done ?ht ?_); (case ht => kernel_rfl))
            | ((with_reducible apply wps_load S 0); (case hx => rfl); (case hi => rfl); (case hT => decide +kernel); (case hu => rfl))
          exact ⟨rfl, S⟩)
        (case hs => exact ⟨_, rfl, by kernel_rfl⟩)
      refine softs_nil ?_
      (with_reducible apply W_hard1 (i := 27)); (case hn => rfl); (case hr => decide +kernel)
      intro wz S
      (with_reducible apply hard_of); (case hi => rfl)
      simp only [List.cons_append, List.nil_append] at S
      go_wp2_with first
        | ((with_reducible refine tot_done ?ht ?_); (case ht => kernel_rfl))
        | ((with_reducible apply wps_build1a (T := 48) (E := 79) S); (case hx => rfl); (case hr => intro w; kernel_rfl); clear S; intro bz wz S)
      refine ⟨_, S.pick [1, 2, 0] rfl, ?_⟩
      (with_reducible apply W_hard1 (i := 28)); (case hn => rfl); (case hr => decide +kernel)
      clear S
      intro wz S
      (with_reducible apply hard_of); (case hi => rfl)
      simp only [List.cons_append, List.nil_append] at S
      try simp only [pick, nth] at S
      (with_reducible apply wps_append1 elem_RIn incells inone (by decide) S 1 (j := 2) (e := x))
      (case hi => rfl)
      (case hj => rfl)
      (case he => rfl)
      (case hl => first | omega | (simp; omega))
      (case hx => rfl)
      (case hy => rfl)
      clear S
      intro az nz cz wz hnz S
      simp only [List.set_cons_succ, List.set_cons_zero] at S
      go_wp2_with first
        | ((with_reducible refine tot_done ?ht ?_); (case ht => kernel_rfl))
      refine ⟨_, S, ?_⟩
      (with_reducible apply W_hard1 (i := 29)); (case hn => rfl); (case hr => decide +kernel)
      clear S
      intro wz S
      (with_reducible apply hard_of); (case hi => rfl)
      go_wp2_with first
        | ((with_reducible refine tot_done ?ht ?_); (case ht => kernel_rfl))
      refine ⟨_, S, ?_⟩
      (with_reducible apply W_done); (case hn => rfl); (case hr => decide +kernel)
      clear S
      intro wz S
      simp only [List.cons_append, List.nil_append] at S
      try simp only [pick, nth] at S
      go_wp2_with first
        | ((with_reducible refine tot_done ?ht ?_); (case ht => kernel_rfl))
        | ((with_reducible apply wps_text S); (case hm => kernel_rfl); (case hB => decide +kernel); clear S; intro wz S)
        | ((with_reducible apply wps_load S 0); (case hx => rfl); (case hi => rfl); (case hT => decide +kernel); (case hu => rfl))
      go_roundw
      case rel => exact ⟨j + 1, by omega, by go_num, by rw [HT.out]; exact S.pick [1, 0] rfl⟩
      case measure => first | (simp [intOf]; done) | (simp [intOf]; omega)
    · obtain rfl : j = p.length := by omega
      rw [List.take_length] at S
      rw [List.take_length]
      go_wp2_with first
        | ((with_reducible refine tot_done ?ht ?_); (case ht => kernel_rfl))
        | ((with_reducible apply wps_text S); (case hm => kernel_rfl); (case hB => decide +kernel); clear S; intro wz S)
        | ((with_reducible apply wps_load S 0); (case hx => rfl); (case hi => rfl); (case hT => decide +kernel); (case hu => rfl))
      go_ret
      exact ⟨_, _, rfl, S.pick [0] rfl⟩
def SmRel (v1 v2 : Value) (xs ys : List Instr) (w : World) (i : Value) (wr : World) : Prop :=
  ∃ j : Nat, j ≤ xs.length ∧ i = .int .i64 j ∧ Hid (∀ q : Nat, q < j → xs[q]? = ys[q]?) ∧ St (fun _ => False) w wr [Sl true Instr.cells 5 v1 xs, Sl true Instr.cells 5 v2 ys]
theorem instr_nceqs (a b : Instr) : (!ceqs a.cells b.cells) = !decide (a = b) := by
  congr 1
  obtain ⟨a1, a2, a3, a4, a5⟩ := a; obtain ⟨b1, b2, b3, b4, b5⟩ := b
  simp only [Instr.cells, ceqs, ceq, Bool.and_true, Instr.mk.injEq]
  rw [Bool.eq_iff_iff]; simp
set_option maxRecDepth 100000 in
set_option maxHeartbeats 4000000 in
theorem same_calls (v1 v2 : Value) (xs ys : List Instr) (w : World) (F1 F2 : Nat → Prop) (h1 : (Sl true Instr.cells 5 v1 xs).at_ w F1) (h2 : (Sl true Instr.cells 5 v2 ys).at_ w F2) (hn : xs.length ≤ 65536) (hn2 : ys.length ≤ 65536) :
    Calls Tryd.prog 18 #[v1, v2] w fun r w' => r = .returned (.bool (decide (xs = ys))) ∧ Below w.heap.size w w' := by
  have S : St (fun _ => False) w w [Sl true Instr.cells 5 v1 xs, Sl true Instr.cells 5 v2 ys] := ((St.init _ w).share rfl rfl h2).share rfl rfl h1
  obtain ⟨ad1, c1, rfl, _⟩ := (S.sl 0 rfl).elim fun _ h => h.form
  obtain ⟨ad2, c2, rfl, _⟩ := (S.sl 1 rfl).elim fun _ h => h.form
  clear h1 h2
  go_enter Tryd.func18, Tryd.ntmps18
  go_wp2_with first
    | ((with_reducible refine tot_done ?ht ?_); (case ht => kernel_rfl))
    | ((with_reducible apply wps_text S); (case hm => kernel_rfl); (case hB => decide +kernel); clear S; intro wz S)
    | ((with_reducible apply wps_loada (T := 79) (k := 5) S 0); (case hx => rfl); (case hi => rfl); (case hT => decide +kernel); (case hk => exact Nat.le_of_ble_eq_true rfl))
  refine Calls.mono (lplain_calls _ xs _ _ (S.get (i := 0) rfl).choose_spec hn) ?_
  rintro e wz ⟨ad3, c3, rfl, T⟩
  replace S := ((S.join T rfl).freeze true 0 incells rfl).pick [0, 2] rfl
  simp only [List.cons_append, List.nil_append, List.set_cons_zero, pick, nth] at S
  clear T
  by_cases hl : xs.length = ys.length
  · have hl2 : ((xs.length : Int) != ys.length) = false := by simp; omega
    have HL := Lib.hid hl
    clear hl
    go_wp2_with first
      | ((with_reducible refine tot_done ?ht ?_); (case ht => kernel_rfl))
      | ((with_reducible apply wps_text S); (case hm => kernel_rfl); (case hB => decide +kernel); clear S; intro wz S)
      | ((with_reducible apply wps_loada (T := 79) (k := 5) S 0); (case hx => rfl); (case hi => rfl); (case hT => decide +kernel); (case hk => exact Nat.le_of_ble_eq_true rfl))
    go_loopw [6] (fun i wr => SmRel (.slice ad3 xs.length c3) (.slice ad2 ys.length c2) xs ys w i wr) (fun i _ => xs.length - (intOf i).toNat)
    case atStart => exact ⟨0, Nat.zero_le _, rfl, fun q h => by omega, S⟩
    case round =>
      clear S
      obtain ⟨j, hj, rfl, He, S⟩ := hrel
      by_cases hlt : j < xs.length
      · obtain ⟨x, hx⟩ : ∃ x, xs[j]? = some x := ⟨_, List.getElem?_eq_getElem hlt⟩
        obtain ⟨y, hy⟩ : ∃ y, ys[j]? = some y := ⟨_, List.getElem?_eq_getElem (by have := HL.out; omega)⟩
        obtain ⟨R1, o1, rfl⟩ : ∃ R o, ad3 = some ⟨R, o, none⟩ := (S.sl 0 rfl).elim fun F h => h.head (by omega)
        obtain ⟨R2, o2, rfl⟩ : ∃ R o, ad2 = some ⟨R, o, none⟩ := (S.sl 1 rfl).elim fun F h => h.head (by have := HL.out; omega)
        have hlt2 : (j : Int) < xs.length := by omega
        have hlt3 : (j : Int) < ys.length := by have := HL.out; omega
        have hv := instr_nceqs x y
        by_cases hxy : x = y
        · have HXY := Lib.hid hxy
          rw [decide_eq_true hxy] at hv
          simp only [Bool.not_true] at hv
          clear hxy
          have Hx := Lib.hid hx
          have Hy := Lib.hid hy
          have Hv := Lib.hid hv
          clear hx hy hv
          go_wp2_with first
            | ((with_reducible refine tot_done ?ht ?_); (case ht => kernel_rfl))
            | ((with_reducible apply wps_loada (T := 79) (k := 5) S 0); (case hx => rfl); (case hi => rfl); (case hT => decide +kernel); (case hk => exact Nat.le_of_ble_eq_true rfl))
          (refine wp_region_w (soft := [0, 1, 2, 3, 4, 5, 6, 7, 8]) S ?hm ?hB ?_); (case hm => kernel_rfl); (case hB => decide +kernel); clear S
          iterate 9
            (with_reducible apply softs_cons)
            (case hw =>
              (with_reducible apply soft_of); (case hi => rfl)
              intro T wz S
              simp only [List.cons_append, List.nil_append] at S
              go_wp2_with first
                | ((with_reducible apply wps_loada_el S 0 (hj := Hx.out) (q := 0) (vs := [.int .i64 x.op, .int .i64 x.a, .int .i64 x.b, .int .i64 x.c, .int .i64 x.d]) (m := 5)); (case hx => rfl); (case hT => decide +kernel); (case hi => rfl); (case hn => omega); (case hm => rfl); (case hv => rfl))
                | ((with_reducible apply wps_load_el S 0 (hj := Hx.out) (q := 0) (u := .int .i64 x.op)); (case hx => rfl); (case hi => rfl); (case hn => omega); (case hT => decide +kernel); (case hu => rfl))
                | ((with_reducible apply wps_load_el S 0 (hj := Hx.out) (q := 1) (u := .int .i64 x.a)); (case hx => rfl); (case hi => rfl); (case hn => omega); (case hT => decide +kernel); (case hu => rfl))
                | ((with_reducible apply wps_load_el S 0 (hj := Hx.out) (q := 2) (u := .int .i64 x.b)); (case hx => rfl); (case hi => rfl); (case hn => omega); (case hT => decide +kernel); (case hu => rfl))
                | ((with_reducible apply wps_load_el S 0 (hj := Hx.out) (q := 3) (u := .int .i64 x.c)); (case hx => rfl); (case hi => rfl); (case hn => omega); (case hT => decide +kernel); (case hu => rfl))
                | ((with_reducible apply wps_load_el S 0 (hj := Hx.out) (q := 4) (u := .int .i64 x.d)); (case hx => rfl); (case hi => rfl); (case hn => omega); (case hT => decide +kernel); (case hu => rfl))
                | ((with_reducible apply wps_loada_el S 1 (hj := Hy.out) (q := 0) (vs := [.int .i64 y.op, .int .i64 y.a, .int .i64 y.b, .int .i64 y.c, .int .i64 y.d]) (m := 5)); (case hx => rfl); (case hT => decide +kernel); (case hi => rfl); (case hn => omega); (case hm => rfl); (case hv => rfl))
                | ((with_reducible apply wps_load_el S 1 (hj := Hy.out) (q := 0) (u := .int .i64 y.op)); (case hx => rfl); (case hi => rfl); (case hn => omega); (case hT => decide +kernel); (case hu => rfl))
                | ((with_reducible apply wps_load_el S 1 (hj := Hy.out) (q := 1) (u := .int .i64 y.a)); (case hx => rfl); (case hi => rfl); (case hn => omega); (case hT => decide +kernel); (case hu => rfl))
                | ((with_reducible apply wps_load_el S 1 (hj := Hy.out) (q := 2) (u := .int .i64 y.b)); (case hx => rfl); (case hi => rfl); (case hn => omega); (case hT => decide +kernel); (case hu => rfl))
                | ((with_reducible apply wps_load_el S 1 (hj := Hy.out) (q := 3) (u := .int .i64 y.c)); (case hx => rfl); (case hi => rfl); (case hn => omega); (case hT => decide +kernel); (case hu => rfl))
                | ((with_reducible apply wps_load_el S 1 (hj := Hy.out) (q := 4) (u := .int .i64 y.d)); (case hx => rfl); (case hi => rfl); (case hn => omega); (case hT => decide +kernel); (case hu => rfl))
                | ((with_reducible apply wpList_neq_agg (t := 79) (ks := [.int .i64, .int .i64, .int .i64, .int .i64, .int .i64]) (b := _)); (case hx => rfl); (case hy => rfl); (case hl => kernel_rfl); (case ha => kernel_rfl); (case hg => kernel_rfl); (case hfx => rfl); (case hfy => rfl); (case hb => exact Hv.out))
                | ((with_reducible refine tot_done ?ht ?_); (case ht => kernel_rfl))
                | ((with_reducible apply wps_loada (T := 79) (k := 5) S 0); (case hx => rfl); (case hi => rfl); (case hT => decide +kernel); (case hk => exact Nat.le_of_ble_eq_true rfl))
              exact ⟨rfl, S⟩)
            (case hs => exact ⟨_, rfl, by kernel_rfl⟩)
          refine softs_nil ?_
          (with_reducible apply W_done); (case hn => rfl); (case hr => decide +kernel)
          intro wz S
          simp only [List.append_nil] at S
          go_wp2_with first
            | ((with_reducible refine tot_done ?ht ?_); (case ht => kernel_rfl))
            | ((with_reducible apply wps_text S); (case hm => kernel_rfl); (case hB => decide +kernel); clear S; intro wz S)
            | ((with_reducible apply wps_loada (T := 79) (k := 5) S 0); (case hx => rfl); (case hi => rfl); (case hT => decide +kernel); (case hk => exact Nat.le_of_ble_eq_true rfl))
          go_roundw
          case rel =>
            refine ⟨j + 1, by omega, by go_num, fun q hq => ?_, S⟩
            by_cases e : q = j
            · subst e; rw [Hx.out, Hy.out, HXY.out]
            · exact He.out q (by omega)
          case measure => first | (simp [intOf]; done) | (simp [intOf]; omega)
        · have HXY := Lib.hid hxy
          rw [decide_eq_false hxy] at hv
          simp only [Bool.not_false] at hv
          clear hxy
          have Hx := Lib.hid hx
          have Hy := Lib.hid hy
          have Hv := Lib.hid hv
          clear hx hy hv
          go_wp2_with first
            | ((with_reducible refine tot_done ?ht ?_); (case ht => kernel_rfl))
            | ((with_reducible apply wps_loada (T := 79) (k := 5) S 0); (case hx => rfl); (case hi => rfl); (case hT => decide +kernel); (case hk => exact Nat.le_of_ble_eq_true rfl))
          (refine wp_region_w (soft := [0, 1, 2, 3, 4, 5, 6, 7, 8]) S ?hm ?hB ?_); (case hm => kernel_rfl); (case hB => decide +kernel); clear S
          iterate 9
            (with_reducible apply softs_cons)
            (case hw =>
              (with_reducible apply soft_of); (case hi => rfl)
              intro T wz S
              simp only [List.cons_append, List.nil_append] at S
              go_wp2_with first
                | ((with_reducible apply wps_loada_el S 0 (hj := Hx.out) (q := 0) (vs := [.int .i64 x.op, .int .i64 x.a, .int .i64 x.b, .int .i64 x.c, .int .i64 x.d]) (m := 5)); (case hx => rfl); (case hT => decide +kernel); (case hi => rfl); (case hn => omega); (case hm => rfl); (case hv => rfl))
                | ((with_reducible apply wps_load_el S 0 (hj := Hx.out) (q := 0) (u := .int .i64 x.op)); (case hx => rfl); (case hi => rfl); (case hn => omega); (case hT => decide +kernel); (case hu => rfl))
                | ((with_reducible apply wps_load_el S 0 (hj := Hx.out) (q := 1) (u := .int .i64 x.a)); (case hx => rfl); (case hi => rfl); (case hn => omega); (case hT => decide +kernel); (case hu => rfl))
                | ((with_reducible apply wps_load_el S 0 (hj := Hx.out) (q := 2) (u := .int .i64 x.b)); (case hx => rfl); (case hi => rfl); (case hn => omega); (case hT => decide +kernel); (case hu => rfl))
                | ((with_reducible apply wps_load_el S 0 (hj := Hx.out) (q := 3) (u := .int .i64 x.c)); (case hx => rfl); (case hi => rfl); (case hn => omega); (case hT => decide +kernel); (case hu => rfl))
                | ((with_reducible apply wps_load_el S 0 (hj := Hx.out) (q := 4) (u := .int .i64 x.d)); (case hx => rfl); (case hi => rfl); (case hn => omega); (case hT => decide +kernel); (case hu => rfl))
                | ((with_reducible apply wps_loada_el S 1 (hj := Hy.out) (q := 0) (vs := [.int .i64 y.op, .int .i64 y.a, .int .i64 y.b, .int .i64 y.c, .int .i64 y.d]) (m := 5)); (case hx => rfl); (case hT => decide +kernel); (case hi => rfl); (case hn => omega); (case hm => rfl); (case hv => rfl))
                | ((with_reducible apply wps_load_el S 1 (hj := Hy.out) (q := 0) (u := .int .i64 y.op)); (case hx => rfl); (case hi => rfl); (case hn => omega); (case hT => decide +kernel); (case hu => rfl))
                | ((with_reducible apply wps_load_el S 1 (hj := Hy.out) (q := 1) (u := .int .i64 y.a)); (case hx => rfl); (case hi => rfl); (case hn => omega); (case hT => decide +kernel); (case hu => rfl))
                | ((with_reducible apply wps_load_el S 1 (hj := Hy.out) (q := 2) (u := .int .i64 y.b)); (case hx => rfl); (case hi => rfl); (case hn => omega); (case hT => decide +kernel); (case hu => rfl))
                | ((with_reducible apply wps_load_el S 1 (hj := Hy.out) (q := 3) (u := .int .i64 y.c)); (case hx => rfl); (case hi => rfl); (case hn => omega); (case hT => decide +kernel); (case hu => rfl))
                | ((with_reducible apply wps_load_el S 1 (hj := Hy.out) (q := 4) (u := .int .i64 y.d)); (case hx => rfl); (case hi => rfl); (case hn => omega); (case hT => decide +kernel); (case hu => rfl))
                | ((with_reducible apply wpList_neq_agg (t := 79) (ks := [.int .i64, .int .i64, .int .i64, .int .i64, .int .i64]) (b := _)); (case hx => rfl); (case hy => rfl); (case hl => kernel_rfl); (case ha => kernel_rfl); (case hg => kernel_rfl); (case hfx => rfl); (case hfy => rfl); (case hb => exact Hv.out))
                | ((with_reducible refine tot_done ?ht ?_); (case ht => kernel_rfl))
                | ((with_reducible apply wps_loada (T := 79) (k := 5) S 0); (case hx => rfl); (case hi => rfl); (case hT => decide +kernel); (case hk => exact Nat.le_of_ble_eq_true rfl))
              exact ⟨rfl, S⟩)
            (case hs => exact ⟨_, rfl, by kernel_rfl⟩)
          refine softs_nil ?_
          (with_reducible apply W_done); (case hn => rfl); (case hr => decide +kernel)
          intro wz S
          simp only [List.append_nil] at S
          go_wp2_with first
            | ((with_reducible refine tot_done ?ht ?_); (case ht => kernel_rfl))
            | ((with_reducible apply wps_text S); (case hm => kernel_rfl); (case hB => decide +kernel); clear S; intro wz S)
            | ((with_reducible apply wps_loada (T := 79) (k := 5) S 0); (case hx => rfl); (case hi => rfl); (case hT => decide +kernel); (case hk => exact Nat.le_of_ble_eq_true rfl))
          go_ret
          exact ⟨ret_bool (by symm; rw [decide_eq_false_iff_not]; rintro rfl; rw [Hx.out] at Hy; exact HXY.out (Option.some.inj Hy.out)), S.below⟩
      · obtain rfl : j = xs.length := by omega
        go_wp2_with first
          | ((with_reducible refine tot_done ?ht ?_); (case ht => kernel_rfl))
          | ((with_reducible apply wps_text S); (case hm => kernel_rfl); (case hB => decide +kernel); clear S; intro wz S)
          | ((with_reducible apply wps_loada (T := 79) (k := 5) S 0); (case hx => rfl); (case hi => rfl); (case hT => decide +kernel); (case hk => exact Nat.le_of_ble_eq_true rfl))
        go_ret
        refine ⟨ret_bool ?_, S.below⟩
        symm
        rw [decide_eq_true_eq]
        refine List.ext_getElem? fun q => ?_
        by_cases hq : q < xs.length
        · exact He.out q hq
        · have := HL.out
          rw [List.getElem?_eq_none (by omega), List.getElem?_eq_none (by omega)]
  · have hl2 : ((xs.length : Int) != ys.length) = true := by simp; omega
    have HL := Lib.hid hl
    clear hl
    go_wp2_with first
      | ((with_reducible refine tot_done ?ht ?_); (case ht => kernel_rfl))
      | ((with_reducible apply wps_text S); (case hm => kernel_rfl); (case hB => decide +kernel); clear S; intro wz S)
      | ((with_reducible apply wps_loada (T := 79) (k := 5) S 0); (case hx => rfl); (case hi => rfl); (case hT => decide +kernel); (case hk => exact Nat.le_of_ble_eq_true rfl))
    go_ret
    exact ⟨ret_bool (by symm; rw [decide_eq_false_iff_not]; rintro rfl; exact HL.out rfl), S.below⟩
end Go.Proofs.YtejdfgonkfgnfaaDoor

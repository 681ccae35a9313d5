import Derived.Test.YtkcnbejpmknaoaaDoorV09
/- The walk of the reference's line (chapter 21). -/
namespace Go.Proofs.YtkcnbejpmknaoaaDoor
open Go Go.RowKit Reg Mem

def outR (k : Nat) (a b z : Int) : DoE × Nat × Int :=
  if a < 0 ∨ b < 0 ∨ z < 0 then (⟨0, 0, 0⟩, 0, 15) else if 4095 < a ∨ 4095 < b ∨ 4095 < z ∨ z = 0 then (⟨0, 0, 0⟩, 0, 10) else (⟨k, a, b⟩, z.toNat, 0)
def rAt (T : List (List UInt8)) (i : Nat) : Int := match T[i]? with | some w => rnumE w | none => 0
def regs (T : List (List UInt8)) (j : Nat) (z : Int) : List Int := [if 0 < j then rAt T 0 else 0, if 1 < j then rAt T 1 else 0, z]
def RRel (T : List (List UInt8)) (z : Int) (tn : Nat) (w : World) (i : Value) (v : Value) (bI : Nat) (A : Asn) (wr : World) : Prop :=
  ∃ j : Nat, j ≤ tn ∧ i = .int .i64 j ∧ St (fun _ => False) w wr [Sl true strcell 1 v T, Own 3 icell 1 (.slice (some ⟨bI, 0, none⟩) 3 3) (regs T j z), A]
def RwRel (w0 : List UInt8) (w : World) (what i : Value) (L : List Asn) (wr : World) : Prop :=
  ∃ (k : Nat) (q : Int), k ≤ 4 ∧ i = .int .i64 k ∧ what = .int .i64 q ∧ Hid (q = if kindE w0 < k then (kindE w0 : Int) else -1) ∧ St (fun _ => False) w wr L
end Go.Proofs.YtkcnbejpmknaoaaDoor
/- Things to do, as the machine holds them; the law's same and plain (chapter 21). -/
namespace Go.Proofs.YtkcnbejpmknaoaaDoor
open Go Go.RowKit Reg Mem

instance : DecidableEq DoE := fun a b => decidable_of_iff (a.what = b.what ∧ a.a = b.a ∧ a.b = b.b) (by cases a; cases b; simp)
def docell (d : DoE) : List Value := [.int .i64 d.what, .int .i64 d.a, .int .i64 d.b]
theorem docells : ∀ x, (docell x).length = 3 := fun _ => rfl
theorem doone : ∀ x, ∀ u ∈ docell x, u.oneCell' = true := fun x u hu => by
  simp only [docell, List.mem_cons, List.not_mem_nil, or_false] at hu; rcases hu with rfl | rfl | rfl <;> rfl
set_option maxRecDepth 100000 in
theorem elem_KD : Elem Tryd.prog 23 42 3 24 := ⟨_, .agg #[.int .i64 0, .int .i64 0, .int .i64 0], Tryd.underlying23, rfl, by kernel_rfl, by kernel_rfl, by kernel_rfl, by kernel_rfl, by omega⟩
set_option maxRecDepth 100000 in
theorem elem_RD : Elem Tryd.prog 27 39 3 24 := ⟨_, .agg #[.int .i64 0, .int .i64 0, .int .i64 0], Tryd.underlying27, rfl, by kernel_rfl, by kernel_rfl, by kernel_rfl, by kernel_rfl, by omega⟩
def DSmRel (v1 v2 : Value) (xs ys : List DoE) (w : World) (i : Value) (wr : World) : Prop :=
  ∃ j : Nat, j ≤ xs.length ∧ i = .int .i64 j ∧ Hid (∀ q : Nat, q < j → xs[q]? = ys[q]?) ∧ St (fun _ => False) w wr [Sl true docell 3 v1 xs, Sl true docell 3 v2 ys]
set_option maxRecDepth 100000 in
set_option maxHeartbeats 16000000 in
theorem dsame_calls (v1 v2 : Value) (xs ys : List DoE) (w : World) (F1 F2 : Nat → Prop) (h1 : (Sl true docell 3 v1 xs).at_ w F1) (h2 : (Sl true docell 3 v2 ys).at_ w F2) (hn : xs.length ≤ 65536) (hn2 : ys.length ≤ 65536) :
    Calls Tryd.prog 9 #[v1, v2] w fun r w' => r = .returned (.bool (decide (xs = ys))) ∧ Below w.heap.size w w' := by
  have S : St (fun _ => False) w w [Sl true docell 3 v1 xs, Sl true docell 3 v2 ys] := ((St.init _ w).share rfl rfl h2).share rfl rfl h1
  obtain ⟨ad1, c1, rfl, _⟩ := (S.sl 0 rfl).elim fun _ h => h.form
  obtain ⟨ad2, c2, rfl, _⟩ := (S.sl 1 rfl).elim fun _ h => h.form
  clear h1 h2
  go_enter Tryd.func9, Tryd.ntmps9
  by_cases hl : xs.length = ys.length
  · have hl2 : ((xs.length : Int) != ys.length) = false := by simp; omega
    have HL := Lib.hid hl
    clear hl
    go_wp2_with first | ((with_reducible apply wps_load S 0); (case hx | hi | hu => rfl); (case hT => decide +kernel))
    go_loopw [5] (fun i wr => DSmRel (.slice ad1 xs.length c1) (.slice ad2 ys.length c2) xs ys w i wr) (fun i _ => xs.length - (intOf i).toNat)
    case atStart => exact ⟨0, Nat.zero_le _, rfl, fun q h => by omega, S⟩
    case round =>
      clear S
      obtain ⟨j, hj, rfl, He, S⟩ := hrel
      by_cases hlt : j < xs.length
      · obtain ⟨x, hx⟩ : ∃ x, xs[j]? = some x := ⟨_, List.getElem?_eq_getElem hlt⟩
        obtain ⟨y, hy⟩ : ∃ y, ys[j]? = some y := ⟨_, List.getElem?_eq_getElem (by have := HL.out; omega)⟩
        obtain ⟨R1, o1, rfl⟩ : ∃ R o, ad1 = some ⟨R, o, none⟩ := (S.sl 0 rfl).elim fun F h => h.head (by omega)
        obtain ⟨R2, o2, rfl⟩ : ∃ R o, ad2 = some ⟨R, o, none⟩ := (S.sl 1 rfl).elim fun F h => h.head (by have := HL.out; omega)
        have hlt2 : (j : Int) < xs.length := by omega
        have hlt3 : (j : Int) < ys.length := by have := HL.out; omega
        have hlt4 : j < ys.length := by have := HL.out; omega
        have HX := Lib.hid hx
        have HY := Lib.hid hy
        by_cases g1 : x.what = y.what
        · have k1 : (x.what != y.what) = false := by simp [g1]
          by_cases g2 : x.a = y.a
          · have k2 : (x.a != y.a) = false := by simp [g2]
            by_cases g3 : x.b = y.b
            · have k3 : (x.b != y.b) = false := by simp [g3]
              have He2 : Hid (∀ q : Nat, q < j + 1 → xs[q]? = ys[q]?) := by
                intro q hq
                by_cases h : q < j
                · exact He q h
                · obtain rfl : q = j := by omega
                  rw [hx, hy]; cases x; cases y; simp only at g1 g2 g3; subst g1 g2 g3; rfl
              clear hx hy g1 g2 g3 He
              go_wp2_with first | ((with_reducible apply wps_load S 1); (case hx | hi | hu => rfl); (case hT => decide +kernel))
              (refine wp_region_w (soft := [0, 1, 2, 3, 4, 5, 6, 7, 8, 9, 10, 11, 12, 13, 14, 15, 16, 17, 18, 19, 20, 21, 22, 23, 24, 25, 26, 27, 28, 29, 30, 31, 32, 33, 34, 35, 36]) S ?hm ?hB ?_); (case hm => kernel_rfl); (case hB => decide +kernel); clear S
              iterate 37
                (with_reducible apply softs_cons)
                (case hw =>
                  (with_reducible apply soft_of); (case hi => rfl)
                  intro T wz S
                  simp only [List.cons_append, List.nil_append] at S
                  go_wp2_with first | ((with_reducible apply wps_load_el S 0 (hj := HX.out) (q := 0) (u := .int .i64 x.what)); (case hx | hi => rfl); (case hn => omega); (case hu => rfl); (case hT => decide +kernel)) | ((with_reducible apply wps_load_el S 1 (hj := HY.out) (q := 0) (u := .int .i64 y.what)); (case hx | hi => rfl); (case hn => omega); (case hu => rfl); (case hT => decide +kernel)) | ((with_reducible apply wps_load_el S 0 (hj := HX.out) (q := 1) (u := .int .i64 x.a)); (case hx | hi => rfl); (case hn => omega); (case hu => rfl); (case hT => decide +kernel)) | ((with_reducible apply wps_load_el S 1 (hj := HY.out) (q := 1) (u := .int .i64 y.a)); (case hx | hi => rfl); (case hn => omega); (case hu => rfl); (case hT => decide +kernel)) | ((with_reducible apply wps_load_el S 0 (hj := HX.out) (q := 2) (u := .int .i64 x.b)); (case hx | hi => rfl); (case hn => omega); (case hu => rfl); (case hT => decide +kernel)) | ((with_reducible apply wps_load_el S 1 (hj := HY.out) (q := 2) (u := .int .i64 y.b)); (case hx | hi => rfl); (case hn => omega); (case hu => rfl); (case hT => decide +kernel)) | ((with_reducible refine tot_done ?ht ?_); (case ht => kernel_rfl))
                  exact ⟨rfl, S⟩)
                (case hs => exact ⟨_, rfl, by kernel_rfl⟩)
              refine softs_nil ?_
              (with_reducible apply W_done); (case hn => rfl); (case hr => decide +kernel)
              intro wz S
              simp only [List.append_nil] at S
              go_wp2_with first | ((with_reducible apply wps_load S 0); (case hx | hi | hu => rfl); (case hT => decide +kernel))
              go_roundw
              case rel => exact ⟨j + 1, by omega, by go_num, He2, S⟩
              case measure => first | (simp [intOf]; done) | (simp [intOf]; omega)
            · have k3 : (x.b != y.b) = true := by simp [g3]
              have HN : Hid (xs ≠ ys) := Lib.hid fun e => by rw [e, hy] at hx; cases hx; exact g3 rfl
              clear hx hy g1 g2 g3 He
              go_wp2_with first | ((with_reducible apply wps_load S 1); (case hx | hi | hu => rfl); (case hT => decide +kernel))
              (refine wp_region_w (soft := [0, 1, 2, 3, 4, 5, 6, 7, 8, 9, 10, 11, 12, 13, 14, 15, 16, 17, 18, 19, 20, 21, 22, 23, 24, 25, 26, 27, 28, 29, 30, 31, 32, 33, 34, 35, 36]) S ?hm ?hB ?_); (case hm => kernel_rfl); (case hB => decide +kernel); clear S
              iterate 37
                (with_reducible apply softs_cons)
                (case hw =>
                  (with_reducible apply soft_of); (case hi => rfl)
                  intro T wz S
                  simp only [List.cons_append, List.nil_append] at S
                  go_wp2_with first | ((with_reducible apply wps_load_el S 0 (hj := HX.out) (q := 0) (u := .int .i64 x.what)); (case hx | hi => rfl); (case hn => omega); (case hu => rfl); (case hT => decide +kernel)) | ((with_reducible apply wps_load_el S 1 (hj := HY.out) (q := 0) (u := .int .i64 y.what)); (case hx | hi => rfl); (case hn => omega); (case hu => rfl); (case hT => decide +kernel)) | ((with_reducible apply wps_load_el S 0 (hj := HX.out) (q := 1) (u := .int .i64 x.a)); (case hx | hi => rfl); (case hn => omega); (case hu => rfl); (case hT => decide +kernel)) | ((with_reducible apply wps_load_el S 1 (hj := HY.out) (q := 1) (u := .int .i64 y.a)); (case hx | hi => rfl); (case hn => omega); (case hu => rfl); (case hT => decide +kernel)) | ((with_reducible apply wps_load_el S 0 (hj := HX.out) (q := 2) (u := .int .i64 x.b)); (case hx | hi => rfl); (case hn => omega); (case hu => rfl); (case hT => decide +kernel)) | ((with_reducible apply wps_load_el S 1 (hj := HY.out) (q := 2) (u := .int .i64 y.b)); (case hx | hi => rfl); (case hn => omega); (case hu => rfl); (case hT => decide +kernel)) | ((with_reducible refine tot_done ?ht ?_); (case ht => kernel_rfl))
                  exact ⟨rfl, S⟩)
                (case hs => exact ⟨_, rfl, by kernel_rfl⟩)
              refine softs_nil ?_
              (with_reducible apply W_done); (case hn => rfl); (case hr => decide +kernel)
              intro wz S
              simp only [List.append_nil] at S
              go_wp2_with first | ((with_reducible apply wps_load S 0); (case hx | hi | hu => rfl); (case hT => decide +kernel))
              go_ret
              exact ⟨congrArg (fun b => Ending.returned (.bool b)) (decide_eq_false HN.out).symm, S.below⟩
          · have k2 : (x.a != y.a) = true := by simp [g2]
            have HN : Hid (xs ≠ ys) := Lib.hid fun e => by rw [e, hy] at hx; cases hx; exact g2 rfl
            clear hx hy g1 g2 He
            go_wp2_with first | ((with_reducible apply wps_load S 1); (case hx | hi | hu => rfl); (case hT => decide +kernel))
            (refine wp_region_w (soft := [0, 1, 2, 3, 4, 5, 6, 7, 8, 9, 10, 11, 12, 13, 14, 15, 16, 17, 18, 19, 20, 21, 22, 23, 24, 25, 26, 27, 28, 29, 30, 31, 32, 33, 34, 35, 36]) S ?hm ?hB ?_); (case hm => kernel_rfl); (case hB => decide +kernel); clear S
            iterate 37
              (with_reducible apply softs_cons)
              (case hw =>
                (with_reducible apply soft_of); (case hi => rfl)
                intro T wz S
                simp only [List.cons_append, List.nil_append] at S
                go_wp2_with first | ((with_reducible apply wps_load_el S 0 (hj := HX.out) (q := 0) (u := .int .i64 x.what)); (case hx | hi => rfl); (case hn => omega); (case hu => rfl); (case hT => decide +kernel)) | ((with_reducible apply wps_load_el S 1 (hj := HY.out) (q := 0) (u := .int .i64 y.what)); (case hx | hi => rfl); (case hn => omega); (case hu => rfl); (case hT => decide +kernel)) | ((with_reducible apply wps_load_el S 0 (hj := HX.out) (q := 1) (u := .int .i64 x.a)); (case hx | hi => rfl); (case hn => omega); (case hu => rfl); (case hT => decide +kernel)) | ((with_reducible apply wps_load_el S 1 (hj := HY.out) (q := 1) (u := .int .i64 y.a)); (case hx | hi => rfl); (case hn => omega); (case hu => rfl); (case hT => decide +kernel)) | ((with_reducible refine tot_done ?ht ?_); (case ht => kernel_rfl))
                exact ⟨rfl, S⟩)
              (case hs => exact ⟨_, rfl, by kernel_rfl⟩)
            refine softs_nil ?_
            (with_reducible apply W_done); (case hn => rfl); (case hr => decide +kernel)
            intro wz S
            simp only [List.append_nil] at S
            go_wp2_with first | ((with_reducible apply wps_load S 0); (case hx | hi | hu => rfl); (case hT => decide +kernel))
            go_ret
            exact ⟨congrArg (fun b => Ending.returned (.bool b)) (decide_eq_false HN.out).symm, S.below⟩
        · have k1 : (x.what != y.what) = true := by simp [g1]
          have HN : Hid (xs ≠ ys) := Lib.hid fun e => by rw [e, hy] at hx; cases hx; exact g1 rfl
          clear hx hy g1 He
          go_wp2_with first | ((with_reducible apply wps_load S 1); (case hx | hi | hu => rfl); (case hT => decide +kernel))
          (refine wp_region_w (soft := [0, 1, 2, 3, 4, 5, 6, 7, 8, 9, 10, 11, 12, 13, 14, 15, 16, 17, 18, 19, 20, 21, 22, 23, 24, 25, 26, 27, 28, 29, 30, 31, 32, 33, 34, 35, 36]) S ?hm ?hB ?_); (case hm => kernel_rfl); (case hB => decide +kernel); clear S
          iterate 37
            (with_reducible apply softs_cons)
            (case hw =>
              (with_reducible apply soft_of); (case hi => rfl)
              intro T wz S
              simp only [List.cons_append, List.nil_append] at S
              go_wp2_with first | ((with_reducible apply wps_load_el S 0 (hj := HX.out) (q := 0) (u := .int .i64 x.what)); (case hx | hi => rfl); (case hn => omega); (case hu => rfl); (case hT => decide +kernel)) | ((with_reducible apply wps_load_el S 1 (hj := HY.out) (q := 0) (u := .int .i64 y.what)); (case hx | hi => rfl); (case hn => omega); (case hu => rfl); (case hT => decide +kernel)) | ((with_reducible refine tot_done ?ht ?_); (case ht => kernel_rfl))
              exact ⟨rfl, S⟩)
            (case hs => exact ⟨_, rfl, by kernel_rfl⟩)
          refine softs_nil ?_
          (with_reducible apply W_done); (case hn => rfl); (case hr => decide +kernel)
          intro wz S
          simp only [List.append_nil] at S
          go_wp2_with first | ((with_reducible apply wps_load S 0); (case hx | hi | hu => rfl); (case hT => decide +kernel))
          go_ret
          exact ⟨congrArg (fun b => Ending.returned (.bool b)) (decide_eq_false HN.out).symm, S.below⟩
      · obtain rfl : j = xs.length := by omega
        have HE : Hid (xs = ys) := Lib.hid (List.ext_getElem? fun q => by
          rcases Nat.lt_or_ge q xs.length with h | h
          · exact He.out q h
          · rw [List.getElem?_eq_none h, List.getElem?_eq_none (by have := HL.out; omega)])
        clear He
        go_wp2_with first | ((with_reducible apply wps_load S 0); (case hx | hi | hu => rfl); (case hT => decide +kernel))
        go_ret
        exact ⟨congrArg (fun b => Ending.returned (.bool b)) (decide_eq_true HE.out).symm, S.below⟩
  · have hl2 : ((xs.length : Int) != ys.length) = true := by rw [bne_iff_ne]; omega
    have HN : Hid (xs ≠ ys) := Lib.hid fun e => hl (by rw [e])
    clear hl
    go_wp2_with first | ((with_reducible apply wps_load S 0); (case hx | hi | hu => rfl); (case hT => decide +kernel))
    go_ret
    exact ⟨congrArg (fun b => Ending.returned (.bool b)) (decide_eq_false HN.out).symm, S.below⟩
def DPlRel (v out : Value) (p : List DoE) (w : World) (i : Value) (wr : World) : Prop :=
  ∃ j : Nat, j ≤ p.length ∧ i = .int .i64 j ∧ St (fun _ => False) w wr [Own 39 docell 3 out (p.take j), Sl true docell 3 v p]
def DPlPost (p : List DoE) (w : World) (e : Ending) (w' : World) : Prop :=
  ∃ ad c, e = .returned (.slice ad p.length c) ∧ St (fun _ => False) w w' [Own 39 docell 3 (.slice ad p.length c) p]
set_option maxRecDepth 100000 in
set_option maxHeartbeats 16000000 in
theorem dplain_calls (v : Value) (p : List DoE) (w : World) (F : Nat → Prop) (h : (Sl true docell 3 v p).at_ w F) (hn : p.length ≤ 65536) : Calls Tryd.prog 10 #[v] w (DPlPost p w) := by
  have S : St (fun _ => False) w w [Sl true docell 3 v p] := (St.init _ w).share rfl rfl h
  obtain ⟨ad, cp, rfl, _⟩ := (S.sl 0 rfl).elim fun _ h => h.form
  clear h
  replace S := S.nil 39 docell 3
  go_enter Tryd.func10, Tryd.ntmps10
  go_wp2_with first | ((with_reducible apply wps_load S 0); (case hx | hi | hu => rfl); (case hT => decide +kernel))
  go_loopw [3, 4] (fun out i wr => DPlRel (.slice ad p.length cp) out p w i wr) (fun _ i _ => p.length - (intOf i).toNat)
  case atStart => exact ⟨0, Nat.zero_le _, rfl, S⟩
  case round =>
    clear S
    obtain ⟨j, hj, rfl, S⟩ := hrel
    obtain ⟨F0, hF0⟩ := S.get (i := 0) rfl
    obtain ⟨ad0, c0, rfl⟩ := hF0.1.form
    clear hF0
    by_cases hlt : j < p.length
    · obtain ⟨x, hx⟩ : ∃ x, p[j]? = some x := ⟨_, List.getElem?_eq_getElem hlt⟩
      obtain ⟨R, o, rfl⟩ : ∃ R o, ad = some ⟨R, o, none⟩ := (S.sl 1 rfl).elim fun F h => h.head (by omega)
      have hlt2 : (j : Int) < p.length := by omega
      have HT : Hid (p.take (j + 1) = p.take j ++ [x]) := by show _ = _; rw [List.take_add_one, hx]; rfl
      have htl : (p.take j).length < 4294967296 := by rw [List.length_take, Nat.min_eq_left hj]; omega
      have hlj : (p.take j).length = j := by simp; omega
      rw [hlj] at S
      rw [hlj]
      have HX := Lib.hid hx
      clear hx
      have HLJ := Lib.hid hlj
      clear hlj
      go_wp2_with first | ((with_reducible apply wps_load S 0); (case hx | hi | hu => rfl); (case hT => decide +kernel))
      replace S := S.pick [1, 0] rfl
      simp only [pick, nth] at S
      (refine wp_region_wt (soft := [0, 1, 2, 3, 4, 5, 6, 7, 8, 9, 10, 11, 12, 13, 14, 15, 16]) (L := [_]) (T := [_]) S ?hm ?hB ?_); (case hm => kernel_rfl); (case hB => decide +kernel); clear S
      iterate 17
        (with_reducible apply softs_cons)
        (case hw =>
          (with_reducible apply soft_of); (case hi => rfl)
          intro T wz S
          simp only [List.cons_append, List.nil_append] at S
          go_wp2_with first | ((with_reducible apply wps_load_el S 0 (hj := HX.out) (q := 0) (u := .int .i64 x.what)); (case hx | hi => rfl); (case hn => omega); (case hu => rfl); (case hT => decide +kernel)) | ((with_reducible apply wps_load_el S 0 (hj := HX.out) (q := 1) (u := .int .i64 x.a)); (case hx | hi => rfl); (case hn => omega); (case hu => rfl); (case hT => decide +kernel)) | ((with_reducible apply wps_load_el S 0 (hj := HX.out) (q := 2) (u := .int .i64 x.b)); (case hx | hi => rfl); (case hn => omega); (case hu => rfl); (case hT => decide +kernel)) | ((with_reducible refine tot_done ?ht ?_); (case ht => kernel_rfl))
          exact ⟨rfl, S⟩)
        (case hs => exact ⟨_, rfl, by kernel_rfl⟩)
      refine softs_nil ?_
      (with_reducible apply W_hard1 (i := 17)); (case hn => rfl); (case hr => decide +kernel)
      intro wz S
      (with_reducible apply hard_of); (case hi => rfl)
      simp only [List.cons_append, List.nil_append] at S
      go_wp2_with first | ((with_reducible apply wps_build1a (T := 27) (E := 39) S); (case hx => rfl); (case hr => intro w; kernel_rfl); clear S; intro bz wz S) | ((with_reducible refine tot_done ?ht ?_); (case ht => kernel_rfl))
      refine ⟨_, S.pick [1, 2, 0] rfl, ?_⟩
      clear S
      (with_reducible apply W_hard1 (i := 18)); (case hn => rfl); (case hr => decide +kernel)
      intro wz S
      (with_reducible apply hard_of); (case hi => rfl)
      simp only [List.cons_append, List.nil_append] at S
      go_wp2_with first | ((with_reducible apply wps_append1 elem_RD docells doone (by decide) S 1 (j := 2) (e := x)); (case hx | hy | hi | hj | he => rfl); (case hl => first | omega | (simp; omega)); clear S; intro az nz cz wz hnz S; simp only [List.set_cons_succ, List.set_cons_zero] at S) | ((with_reducible refine tot_done ?ht ?_); (case ht => kernel_rfl))
      refine ⟨_, S, ?_⟩
      clear S
      (refine W_mid (f := 0) (soft := [19]) rfl ?hB ?_); (case hB => decide +kernel)
      iterate 1
        (with_reducible apply softs_cons)
        (case hw =>
          (with_reducible apply soft_of); (case hi => rfl)
          intro T wz S
          simp only [List.cons_append, List.nil_append] at S
          go_wp2_with first | ((with_reducible refine tot_done ?ht ?_); (case ht => kernel_rfl))
          exact ⟨rfl, S⟩)
        (case hs => exact ⟨_, rfl, by kernel_rfl⟩)
      refine softs_nil ?_
      (with_reducible apply W_done); (case hn => rfl); (case hr => decide +kernel)
      intro wz S
      repeat (first | simp only at S | simp only [pick] at S | simp only [nth] at S | simp only [List.set_cons_succ] at S | simp only [List.set_cons_zero] at S | simp only [List.setIfInBounds_toArray] at S | simp only [setAll] at S | simp only [List.cons_append] at S | simp only [List.nil_append] at S | simp only [List.append_nil] at S)
      go_wp2_with first | ((with_reducible apply wps_load S 0); (case hx | hi | hu => rfl); (case hT => decide +kernel))
      go_roundw
      case rel => exact ⟨j + 1, by omega, by go_num, by rw [HT.out]; exact S.pick [1, 0] rfl⟩
      case measure => first | (simp [intOf]; done) | (simp [intOf]; omega)
    · obtain rfl : j = p.length := by omega
      rw [List.take_length] at S
      rw [List.take_length]
      go_wp2_with first | ((with_reducible apply wps_load S 0); (case hx | hi | hu => rfl); (case hT => decide +kernel))
      go_ret
      exact ⟨_, _, rfl, S.pick [0] rfl⟩
end Go.Proofs.YtkcnbejpmknaoaaDoor
/- The walks of the script's Parse and the reference's (chapter 21). -/
namespace Go.Proofs.YtkcnbejpmknaoaaDoor
open Go Go.RowKit Reg Mem

def PaPost (E : TypeId) (q : List DoE × Nat × Int) (w : World) (e : Ending) (w' : World) : Prop :=
  (q.2.2 ≠ 0 ∧ e = .returned (.tuple #[.slice none 0 0, .int .i64 q.2.1, .int .i64 q.2.2]) ∧ Below w.heap.size w w') ∨
  (q.2.2 = 0 ∧ ∃ a c, e = .returned (.tuple #[.slice a q.1.length c, .int .i64 0, .int .i64 0]) ∧ St (fun _ => False) w w' [Own E docell 3 (.slice a q.1.length c) q.1])
def PaRel (v : Value) (ls : List (List UInt8)) (q : List DoE × Nat × Int) (w : World) (out i : Value) (L : List Asn) (wr : World) : Prop :=
  ∃ (k : Nat) (acc : List DoE), k ≤ ls.length ∧ i = .int .i64 k ∧ Hid (parseE (ls.drop k) k acc = q) ∧ acc.length ≤ 4096 ∧ St (fun _ => False) w wr (Own 42 docell 3 out acc :: Sl true strcell 1 v ls :: L)
def PaRel2 (acc : List DoE) (d : DoE) (n : Nat) (w : World) (out i : Value) (L : List Asn) (wr : World) : Prop :=
  ∃ j : Nat, j ≤ n ∧ i = .int .i64 j ∧ St (fun _ => False) w wr (Own 42 docell 3 out (acc ++ List.replicate j d) :: L)
theorem rep_snoc (acc : List DoE) (d : DoE) (j : Nat) : (acc ++ List.replicate j d) ++ [d] = acc ++ List.replicate (j + 1) d := by
  rw [List.append_assoc, ← List.replicate_succ']
set_option maxRecDepth 100000 in
set_option maxHeartbeats 16000000 in
theorem parse_calls (tE : TypeId) (pE : Value) (l : List UInt8) (w : World) (F F2 : Nat → Prop) (h : (LibA tE pE).at_ w F) (h2 : FormsT.at_ w F2) (hn : l.length ≤ 2147483647) :
    Calls Tryd.prog 7 #[strV l] w (PaPost 42 (parseT l) w) := by
  have S : St (fun _ => False) w w [LibA tE pE, FormsT] := ((St.init _ w).share (A := FormsT) rfl rfl h2).share (A := LibA tE pE) rfl rfl h
  clear h h2
  by_cases hbig : 65536 < l.length
  · have HR : Hid (parseT l = ([], 0, 11)) := Lib.hid (by unfold parseT; rw [if_pos hbig])
    have c1 : (65536 : Int) < l.length := by omega
    clear hbig
    go_enter Tryd.func7, Tryd.ntmps7
    go_wp2_with first | ((with_reducible apply wps_slen (T := 9)); (case hx => rfl); (case hT => exact Tryd.underlying9))
    (try simp only [Exit.inBlock, Exit.then]); refine bodyPost_ret (results3 rfl (res_tmp rfl) (res_tmp rfl) (res_tmp rfl)) rfl ?_
    rw [HR.out]
    exact .inl ⟨by decide, rfl, S.below⟩
  · have HP : Hid (parseT l = parseE (splitGo 10 [] l) 0 []) := Lib.hid (by unfold parseT; rw [if_neg hbig])
    have c1 : ¬ ((65536 : Int) < l.length) := by omega
    have HC := Lib.hid (fun w F h => split_calls tE pE l w F h hn)
    have HSZ : Hid (∀ x ∈ splitGo 10 [] l, x.length ≤ 65536) := Lib.hid fun x hx => by have h9 := split_size 10 l [] x hx; simp only [List.length_nil] at h9; omega
    have hln : (splitGo 10 [] l).length ≤ 65537 := by
      have h9 := split_len 10 l []
      have h8 : l.count 10 ≤ l.length := List.count_le_length
      omega
    have hl0 : 0 < (splitGo 10 [] l).length := by rw [split_len]; omega
    generalize splitGo 10 [] l = ls at *
    generalize parseT l = q at *
    clear hbig
    replace S := S.nil 42 docell 3
    go_enter Tryd.func7, Tryd.ntmps7
    go_wp2_with first | ((with_reducible apply wps_slen (T := 9)); (case hx => rfl); (case hT => exact Tryd.underlying9)) | (go_at_call 13; refine Calls.mono (HC.out _ _ (S.get (i := 1) rfl).choose_spec) ?_; rintro e wz ⟨Rs, rfl, T⟩; replace S := S.join T rfl; clear T; simp only [List.cons_append, List.nil_append] at S)
    replace S := (S.freeze true 0 strcells rfl).pick [1, 0, 2, 3] rfl
    simp only [List.set_cons_zero, pick, nth] at S
    go_loopw [5, 17] (fun out i wr => PaRel _ ls q w out i [LibA tE pE, FormsT] wr) (fun _ i _ => ls.length - (intOf i).toNat)
    case atStart => exact ⟨0, [], Nat.zero_le _, rfl, Lib.hid (by rw [List.drop_zero]; exact HP.out.symm), by simp, S⟩
    case round =>
      clear S
      obtain ⟨k, acc, hk, rfl, HQ, hac, S⟩ := hrel
      obtain ⟨ao, co, rfl, _⟩ := (S.ownsl docells 0 rfl).elim fun _ h => h.form
      by_cases hlt : k < ls.length
      · have hlt2 : (k : Int) < ls.length := by omega
        obtain ⟨x, hx⟩ : ∃ x, ls[k]? = some x := ⟨_, List.getElem?_eq_getElem hlt⟩
        have hd : ls.drop k = x :: ls.drop (k + 1) := by rw [← (List.getElem?_eq_some_iff.1 hx).2]; exact List.drop_eq_getElem_cons hlt
        have HX := Lib.hid hx
        have HL := Lib.hid (fun w F F2 h h2 => line_calls tE pE x w F F2 h h2 (HSZ.out x (List.mem_of_getElem? hx)))
        have hnt := line_times (wordsOf x)
        have HQ2 := HQ.out
        rw [hd] at HQ2
        by_cases he : (lineE (wordsOf x)).2.2 = 0
        · by_cases hf : 4096 < acc.length + (lineE (wordsOf x)).2.1
          · rw [parse_full he hf] at HQ2
            have HR := Lib.hid HQ2.symm
            rw [he] at HL
            clear HQ2 HQ hd hx he
            generalize (lineE (wordsOf x)).1 = d at *
            generalize (lineE (wordsOf x)).2.1 = n at *
            have c2 : (4096 : Int) < acc.length + n := by omega
            as_aux_lemma =>
              go_wp2_with first | ((with_reducible apply wps_load_el S 1 (hj := HX.out) (q := 0) (u := strV x)); (case hx | hi => rfl); (case hn => omega); (case hu => rfl); (case hT => decide +kernel)) | (go_at_call 14; refine Calls.mono (HL.out _ _ _ (S.get (i := 2) rfl).choose_spec (S.get (i := 3) rfl).choose_spec) ?_; rintro e wz ⟨rfl, hE⟩; replace S := S.ext (Keep.of_below hE); clear hE) | ((with_reducible apply wps_alloca (E := 42) S); (case hz => exact Tryd.zeroValue42); clear S; intro bd wz S) | ((with_reducible apply wps_storea (T := 42) S 0 (vs := [.int .i64 d.what, .int .i64 d.a, .int .i64 d.b]) (m := 3)); (case hx | hy | hi | hm | h1 => rfl); (case hn => exact Nat.le_of_ble_eq_true rfl); (case hT => decide +kernel); clear S; intro wz S; simp only [List.set_cons_zero, List.set_cons_succ, setAll, List.setIfInBounds_toArray] at S)
              (try simp only [Exit.inBlock, Exit.then]); refine bodyPost_ret (results3 rfl (res_tmp rfl) (res_tmp rfl) (res_tmp rfl)) rfl ?_
              rw [HR.out]
              exact .inl ⟨(show (11 : Int) ≠ 0 by decide), rfl, S.below⟩
          · rw [parse_next he hf] at HQ2
            have HN := Lib.hid HQ2
            rw [he] at HL
            clear HQ2 HQ hd hx he
            generalize (lineE (wordsOf x)).1 = d at *
            generalize (lineE (wordsOf x)).2.1 = n at *
            have c2 : ¬ ((4096 : Int) < acc.length + n) := by omega
            have hln2 : acc.length + n ≤ 4096 := by omega
            clear hf
            as_aux_lemma =>
              go_wp2_with first | ((with_reducible apply wps_load_el S 1 (hj := HX.out) (q := 0) (u := strV x)); (case hx | hi => rfl); (case hn => omega); (case hu => rfl); (case hT => decide +kernel)) | (go_at_call 14; refine Calls.mono (HL.out _ _ _ (S.get (i := 2) rfl).choose_spec (S.get (i := 3) rfl).choose_spec) ?_; rintro e wz ⟨rfl, hE⟩; replace S := S.ext (Keep.of_below hE); clear hE) | ((with_reducible apply wps_alloca (E := 42) S); (case hz => exact Tryd.zeroValue42); clear S; intro bd wz S) | ((with_reducible apply wps_storea (T := 42) S 0 (vs := [.int .i64 d.what, .int .i64 d.a, .int .i64 d.b]) (m := 3)); (case hx | hy | hi | hm | h1 => rfl); (case hn => exact Nat.le_of_ble_eq_true rfl); (case hT => decide +kernel); clear S; intro wz S; simp only [List.set_cons_zero, List.set_cons_succ, setAll, List.setIfInBounds_toArray] at S)
              replace S := S.pick [1, 0, 2, 3, 4] rfl
              simp only [pick, nth] at S
              go_loopw [5, 41] (fun out i wr => PaRel2 acc d n w out i _ wr) (fun _ i _ => n - (intOf i).toNat)
              case atStart => exact ⟨0, Nat.zero_le _, rfl, by rw [List.replicate_zero, List.append_nil]; exact S⟩
              case round =>
                clear S
                obtain ⟨j, hj, rfl, S⟩ := hrel
                obtain ⟨ap, cp, rfl, _⟩ := (S.ownsl docells 0 rfl).elim fun _ h => h.form
                by_cases hjt : j < n
                · have hjt2 : (j : Int) < n := by omega
                  have HRS := Lib.hid (rep_snoc acc d j)
                  have hrl : (acc ++ List.replicate j d).length < 4294967296 := by simp; omega
                  generalize acc ++ List.replicate j d = ac2 at *
                  go_wp2_with first | ((with_reducible apply wps_loada (T := 42) (k := 3) S 1); (case hx | hi => rfl); (case hk => exact Nat.le_of_ble_eq_true rfl); (case hT => decide +kernel)) | ((with_reducible apply wps_build1a (T := 23) (E := 42) S); (case hx => rfl); (case hr => intro w; kernel_rfl); clear S; intro bz wz S) | ((with_reducible apply wps_append1 elem_KD docells doone (by decide) S 1 (j := 0) (e := d)); (case hx | hy | hi | hj | he => rfl); (case hl => first | omega | (simp; omega)); clear S; intro az nz cz wz hnz S; simp only [List.set_cons_succ, List.set_cons_zero] at S)
                  go_roundw
                  case rel => exact ⟨j + 1, by omega, by go_num, by rw [← HRS.out]; exact S.pick [1, 2, 3, 4, 5] rfl⟩
                  case measure => first | (simp [intOf]; done) | (simp [intOf]; omega)
                · obtain rfl : j = n := by omega
                  have hrl : (acc ++ List.replicate j d).length ≤ 4096 := by simp; omega
                  go_wp2_with first | ((with_reducible apply wps_loada (T := 42) (k := 3) S 0); (case hx | hi => rfl); (case hk => exact Nat.le_of_ble_eq_true rfl); (case hT => decide +kernel))
                  go_roundw
                  case rel => exact ⟨k + 1, acc ++ List.replicate j d, by omega, by go_num, HN, hrl, S.pick [0, 2, 3, 4] rfl⟩
                  case measure => first | (simp [intOf]; done) | (simp [intOf]; omega)
        · rw [parse_bad he] at HQ2
          have HR := Lib.hid HQ2.symm
          have c2 : ((lineE (wordsOf x)).2.2 != 0) = true := by rw [bne_iff_ne]; exact he
          have HE0 := Lib.hid he
          clear HQ2 HQ hd hx he
          generalize (lineE (wordsOf x)).1 = d at *
          generalize (lineE (wordsOf x)).2.1 = n at *
          generalize (lineE (wordsOf x)).2.2 = er at *
          as_aux_lemma =>
            go_wp2_with first | ((with_reducible apply wps_load_el S 1 (hj := HX.out) (q := 0) (u := strV x)); (case hx | hi => rfl); (case hn => omega); (case hu => rfl); (case hT => decide +kernel)) | (go_at_call 14; refine Calls.mono (HL.out _ _ _ (S.get (i := 2) rfl).choose_spec (S.get (i := 3) rfl).choose_spec) ?_; rintro e wz ⟨rfl, hE⟩; replace S := S.ext (Keep.of_below hE); clear hE) | ((with_reducible apply wps_alloca (E := 42) S); (case hz => exact Tryd.zeroValue42); clear S; intro bd wz S) | ((with_reducible apply wps_storea (T := 42) S 0 (vs := [.int .i64 d.what, .int .i64 d.a, .int .i64 d.b]) (m := 3)); (case hx | hy | hi | hm | h1 => rfl); (case hn => exact Nat.le_of_ble_eq_true rfl); (case hT => decide +kernel); clear S; intro wz S; simp only [List.set_cons_zero, List.set_cons_succ, setAll, List.setIfInBounds_toArray] at S)
            (try simp only [Exit.inBlock, Exit.then]); refine bodyPost_ret (results3 rfl (res_tmp rfl) (res_tmp rfl) (res_tmp rfl)) rfl ?_
            rw [HR.out]
            exact .inl ⟨HE0.out, rfl, S.below⟩
      · obtain rfl : k = ls.length := by omega
        have HQ2 := HQ.out
        rw [List.drop_length, parseE] at HQ2
        clear HQ
        subst HQ2
        go_wp2_with first | ((with_reducible apply wps_loada (T := 42) (k := 3) S 0); (case hx | hi => rfl); (case hk => exact Nat.le_of_ble_eq_true rfl); (case hT => decide +kernel))
        (try simp only [Exit.inBlock, Exit.then]); refine bodyPost_ret (results3 rfl (res_tmp rfl) (res_tmp rfl) (res_tmp rfl)) rfl ?_
        exact .inr ⟨rfl, _, _, rfl, S.pick [0] rfl⟩
def RaRel (v : Value) (ls : List (List UInt8)) (q : List DoE × Nat × Int) (w : World) (out i : Value) (wr : World) : Prop :=
  ∃ (k : Nat) (acc : List DoE), k ≤ ls.length ∧ i = .int .i64 k ∧ Hid (parseE (ls.drop k) k acc = q) ∧ acc.length ≤ 4096 ∧ St (fun _ => False) w wr [Own 39 docell 3 out acc, Sl true strcell 1 v ls]
def RaRel2 (acc : List DoE) (d : DoE) (n : Nat) (w : World) (out i : Value) (L : List Asn) (wr : World) : Prop :=
  ∃ j : Nat, j ≤ n ∧ i = .int .i64 j ∧ St (fun _ => False) w wr (Own 39 docell 3 out (acc ++ List.replicate j d) :: L)
end Go.Proofs.YtkcnbejpmknaoaaDoor
/- The walks of the laws ScriptReads and ScriptLines. -/
namespace Go.Proofs.YtkcnbejpmknaoaaDoor
open Go Go.RowKit Reg Mem

theorem parseT_wrong {l : List UInt8} (h : (parseT l).2.2 ≠ 0) : (parseT l).1 = [] := by
  unfold parseT at *
  split
  · rfl
  · rename_i g; rw [if_neg g] at h; exact (parse_wrong _ _ _ h).1
theorem parseT_right {l : List UInt8} (h : (parseT l).2.2 = 0) : (parseT l).2.1 = 0 := by
  unfold parseT at *
  split
  · rfl
  · rename_i g; rw [if_neg g] at h; exact parse_right _ _ _ h
theorem parseT_len (l : List UInt8) : (parseT l).1.length ≤ 4096 := by
  unfold parseT
  split
  · simp
  · exact parse_ok_len _ _ _ (by simp)
def PaPost2 (E : TypeId) (q : List DoE × Nat × Int) (w : World) (e : Ending) (w' : World) : Prop :=
  ∃ a c, e = .returned (.tuple #[.slice a q.1.length c, .int .i64 q.2.1, .int .i64 q.2.2]) ∧ St (fun _ => False) w w' [Own E docell 3 (.slice a q.1.length c) q.1]
theorem pa_two {E : TypeId} {l : List UInt8} {w : World} {e : Ending} {w' : World} (h : PaPost E (parseT l) w e w') : PaPost2 E (parseT l) w e w' := by
  rcases h with ⟨h0, rfl, hE⟩ | ⟨h0, a, c, rfl, S⟩
  · refine ⟨none, 0, ?_, ?_⟩
    · rw [parseT_wrong h0]; rfl
    · rw [parseT_wrong h0]
      exact ((St.init _ w).nil E docell 3).ext (Keep.of_below hE)
  · refine ⟨a, c, ?_, S⟩
    rw [parseT_right h0, h0]; rfl
theorem Mem.St.ownThree {b : Nat} {E : TypeId} {G : Nat → Prop} {w0 w : World} {L : List Asn} (x y z : DoE) (S : St G w0 w (Blk false b #[.int .i64 x.what, .int .i64 x.a, .int .i64 x.b, .int .i64 y.what, .int .i64 y.a, .int .i64 y.b, .int .i64 z.what, .int .i64 z.a, .int .i64 z.b] E :: L)) :
    St G w0 w (Own E docell 3 (.slice (some ⟨b, 0, none⟩) 3 3) [x, y, z] :: L) := by
  have := S.same (i := 0) (A' := Own E docell 3 (.slice (some ⟨b, 0, none⟩) 3 3) [x, y, z]) rfl (fun F h => ⟨⟨by simp [flatE, docell], .inr ⟨b, 3, _, rfl, Nat.zero_le _, h.1, Nat.le_refl _, by simp [maxLen], by simp, by simp [flatE, docell]⟩⟩, fun x => by rw [h.2 x]; simp [Value.ownBlock, eq_comm]⟩) rfl
  simpa using this
theorem aw_one : parseT [115, 116, 101, 112, 32, 48, 32, 120, 51] = ([⟨0, 0, 0⟩, ⟨0, 0, 0⟩, ⟨0, 0, 0⟩], 0, 0) := by kernel_rfl
theorem aw_v1 : strV [115, 116, 101, 112, 32, 48, 32, 120, 51] = Value.string { data := #[115, 116, 101, 112, 32, 48, 32, 120, 51] } := by kernel_rfl
theorem aw_v2 : strV [114, 111, 117, 110, 100, 10, 100, 101, 108, 105, 118, 101, 114, 32, 50] = Value.string { data := #[114, 111, 117, 110, 100, 10, 100, 101, 108, 105, 118, 101, 114, 32, 50] } := by kernel_rfl
theorem dsame_self (v1 v2 : Value) (xs : List DoE) (w : World) (F1 F2 : Nat → Prop) (h1 : (Sl true docell 3 v1 xs).at_ w F1) (h2 : (Sl true docell 3 v2 xs).at_ w F2) (hn : xs.length ≤ 65536) :
    Calls Tryd.prog 9 #[v1, v2] w fun r w' => r = .returned (.bool true) ∧ Below w.heap.size w w' :=
  (dsame_calls v1 v2 xs xs w F1 F2 h1 h2 hn hn).mono fun _ _ h => ⟨by rw [h.1, decide_eq_true rfl], h.2⟩
theorem aw_two : parseT [114, 111, 117, 110, 100, 10, 100, 101, 108, 105, 118, 101, 114, 32, 50] = ([], 2, 15) := by kernel_rfl
set_option maxRecDepth 100000 in
set_option maxHeartbeats 16000000 in
theorem awake21_calls (tE : TypeId) (pE : Value) (w : World) (F F2 : Nat → Prop) (h : (LibA tE pE).at_ w F) (h2 : FormsT.at_ w F2) : Calls Tryd.prog 6 #[] w fun e w' => e = .returned (.bool true) ∧ Below w.heap.size w w' := by
  have S : St (fun _ => False) w w [LibA tE pE, FormsT] := ((St.init _ w).share (A := FormsT) rfl rfl h2).share (A := LibA tE pE) rfl rfl h
  clear h h2
  have H1 := Lib.hid (fun w F F2 h h2 => Calls.mono (parse_calls tE pE [115, 116, 101, 112, 32, 48, 32, 120, 51] w F F2 h h2 (by decide)) fun e w' h => pa_two h)
  have H2 := Lib.hid (fun w F F2 h h2 => Calls.mono (parse_calls tE pE [114, 111, 117, 110, 100, 10, 100, 101, 108, 105, 118, 101, 114, 32, 50] w F F2 h h2 (by decide)) fun e w' h => pa_two h)
  rw [aw_one, aw_v1] at H1
  rw [aw_two, aw_v2] at H2
  go_enter Tryd.func6, Tryd.ntmps6
  go_upto_region 3 with first | (go_at_call 7; obtain ⟨Fl, hLi⟩ := S.get (i := 0) rfl; obtain ⟨Ff, hFo⟩ := S.get (i := 1) rfl; (with_reducible refine Calls.mono (H1.out _ _ _ hLi hFo) ?_); clear hLi hFo; rintro e wz ⟨aa, ca, rfl, T⟩; replace S := (S.join T rfl).freeze true 0 docells rfl; clear T; simp only [List.cons_append, List.nil_append, List.set_cons_zero] at S) | (go_at_call 7; obtain ⟨Fl, hLi⟩ := S.get (i := 1) rfl; obtain ⟨Ff, hFo⟩ := S.get (i := 2) rfl; (with_reducible refine Calls.mono (H2.out _ _ _ hLi hFo) ?_); clear hLi hFo; rintro e wz ⟨ab, cb, rfl, T⟩; replace S := (S.join T rfl); clear T; simp only [List.cons_append, List.nil_append] at S)
  go_wp2_with first | ((with_reducible apply wps_buildSlice (T := 27) (E := 39) (cs := #[.int .i64 0, .int .i64 0, .int .i64 0, .int .i64 0, .int .i64 0, .int .i64 0, .int .i64 0, .int .i64 0, .int .i64 0]) S); (case hr => intro w; kernel_rfl); clear S; intro bz wz S) | (go_at_call 9; replace S := (Mem.St.ownThree ⟨0, 0, 0⟩ ⟨0, 0, 0⟩ ⟨0, 0, 0⟩ S).freeze true 0 docells rfl; simp only [List.set_cons_zero] at S; refine Calls.mono (dsame_self _ _ [⟨0, 0, 0⟩, ⟨0, 0, 0⟩, ⟨0, 0, 0⟩] _ _ _ (S.get (i := 2) rfl).choose_spec (S.get (i := 0) rfl).choose_spec (by decide)) ?_; rintro e wz ⟨rfl, hE⟩; replace S := S.ext (Keep.of_below hE); clear hE)
  go_ret
  exact ⟨rfl, S.below⟩
theorem lines_law {s t : List UInt8} (hs : s.length ≤ 800) (ht : t.length ≤ 800) :
    ((parseT s).2.2 ≠ 0 → parseT (s ++ [10] ++ t) = ([], (parseT s).2.1, (parseT s).2.2)) ∧
    ((parseT s).2.2 = 0 → (parseT t).2.2 ≠ 0 → (parseT (s ++ [10] ++ t)).1 = [] ∧ (((parseT (s ++ [10] ++ t)).2.2 = (parseT t).2.2 ∧ (parseT (s ++ [10] ++ t)).2.1 = s.count 10 + 1 + (parseT t).2.1) ∨
      ((parseT (s ++ [10] ++ t)).2.2 = 11 ∧ s.count 10 + 1 < (parseT (s ++ [10] ++ t)).2.1 ∧ (parseT (s ++ [10] ++ t)).2.1 ≤ s.count 10 + 1 + (parseT t).2.1))) ∧
    ((parseT s).2.2 = 0 → (parseT t).2.2 = 0 → 4096 < (parseT s).1.length + (parseT t).1.length → (parseT (s ++ [10] ++ t)).1 = [] ∧ (parseT (s ++ [10] ++ t)).2.2 = 11 ∧ s.count 10 + 1 < (parseT (s ++ [10] ++ t)).2.1) ∧
    ((parseT s).2.2 = 0 → (parseT t).2.2 = 0 → ¬ 4096 < (parseT s).1.length + (parseT t).1.length → parseT (s ++ [10] ++ t) = ((parseT s).1 ++ (parseT t).1, 0, 0)) := by
  have e1 : parseT s = parseE (splitGo 10 [] s) 0 [] := by unfold parseT; rw [if_neg (by omega)]
  have e2 : parseT t = parseE (splitGo 10 [] t) 0 [] := by unfold parseT; rw [if_neg (by omega)]
  have e3 : parseT (s ++ [10] ++ t) = if (parseT s).2.2 = 0 then parseE (splitGo 10 [] t) (s.count 10 + 1) (parseT s).1 else parseT s := by
    have : parseT (s ++ [10] ++ t) = parseE (splitGo 10 [] (s ++ [10] ++ t)) 0 [] := by unfold parseT; rw [if_neg (by simp; omega)]
    rw [this, List.append_assoc, List.singleton_append, split_two, parse_append, ← e1, Nat.zero_add, split_len]
  have hsl := parseT_len s
  rw [e3]
  obtain ⟨g1, g2, _⟩ := parse_ahead (splitGo 10 [] t) 0 (s.count 10 + 1) [] (parseT s).1
  rw [List.append_nil, ← e2] at g1 g2
  have hw := parse_wrong (splitGo 10 [] t) (s.count 10 + 1) (parseT s).1
  have hr := parse_right (splitGo 10 [] t) (s.count 10 + 1) (parseT s).1
  have hl := parse_ok_len (splitGo 10 [] t) (s.count 10 + 1) (parseT s).1 hsl
  have hsw := @parseT_wrong s
  generalize parseE (splitGo 10 [] t) (s.count 10 + 1) (parseT s).1 = c at *
  refine ⟨fun h => ?_, fun h h2 => ?_, fun h h2 h3 => ?_, fun h h2 h3 => ?_⟩
  · rw [if_neg h, ← hsw h]
  · rw [if_pos h]
    rcases g2 h2 with ⟨a, b⟩ | ⟨a, b⟩
    · exact ⟨(hw (by rw [a]; exact h2)).1, .inl ⟨a, by omega⟩⟩
    · have := hw (by rw [a]; decide)
      exact ⟨this.1, .inr ⟨a, this.2.1, by omega⟩⟩
  · rw [if_pos h]
    rcases g1 h2 with ⟨a, b⟩ | ⟨a, b⟩
    · rw [b, List.length_append] at hl; omega
    · have := hw (by rw [a]; decide)
      exact ⟨this.1, a, this.2.1⟩
  · rw [if_pos h]
    rcases g1 h2 with ⟨a, b⟩ | ⟨a, b⟩
    · obtain ⟨c1, c2, c3⟩ := c
      simp only at a b hr
      rw [b, a, hr a]
    · omega
theorem parseT_lines {l : List UInt8} (hn : l.length ≤ 65536) : (parseT l).2.1 ≤ l.length + 1 := by
  have e1 : parseT l = parseE (splitGo 10 [] l) 0 [] := by unfold parseT; rw [if_neg (by omega)]
  by_cases h : (parseT l).2.2 = 0
  · rw [parseT_right h]; omega
  · rw [e1] at h ⊢
    have := (parse_wrong _ _ _ h).2.2
    rw [split_len] at this
    have : l.count 10 ≤ l.length := List.count_le_length
    omega
def LiRel (s : List UInt8) (w : World) (n x : Value) (L : List Asn) (wr : World) : Prop :=
  ∃ k : Nat, k ≤ s.length ∧ x = .int .i64 k ∧ n = .int .i64 ((s.take k).count 10 + 1 : Nat) ∧ St (fun _ => False) w wr L
set_option maxRecDepth 100000 in
set_option maxHeartbeats 16000000 in
theorem lines_calls (tE : TypeId) (pE : Value) (s t : List UInt8) (w : World) (F F2 : Nat → Prop) (h : (LibA tE pE).at_ w F) (h2 : FormsT.at_ w F2) : Calls Tryd.prog 4 #[strV s, strV t] w fun e w' => e = .returned (.bool true) ∧ Below w.heap.size w w' := by
  have S : St (fun _ => False) w w [LibA tE pE, FormsT] := ((St.init _ w).share (A := FormsT) rfl rfl h2).share (A := LibA tE pE) rfl rfl h
  clear h h2
  by_cases hbig : 800 < s.length
  · have c1 : (800 : Int) < s.length := by omega
    clear hbig
    go_enter Tryd.func4, Tryd.ntmps4
    go_wp2_with first | ((with_reducible apply wps_slen (T := 9)); (case hx => rfl); (case hT => exact Tryd.underlying9)) | (go_at_call 6; refine Calls.mono (awake21_calls tE pE _ _ _ (S.get (i := 0) rfl).choose_spec (S.get (i := 1) rfl).choose_spec) ?_; rintro e wz ⟨rfl, hE⟩; replace S := S.ext (Keep.of_below hE); clear hE)
    go_ret
    exact ⟨rfl, S.below⟩
  by_cases hbig2 : 800 < t.length
  · have c1 : ¬ (800 : Int) < s.length := by omega
    have c2 : (800 : Int) < t.length := by omega
    clear hbig hbig2
    go_enter Tryd.func4, Tryd.ntmps4
    go_wp2_with first | ((with_reducible apply wps_slen (T := 9)); (case hx => rfl); (case hT => exact Tryd.underlying9)) | (go_at_call 6; refine Calls.mono (awake21_calls tE pE _ _ _ (S.get (i := 0) rfl).choose_spec (S.get (i := 1) rfl).choose_spec) ?_; rintro e wz ⟨rfl, hE⟩; replace S := S.ext (Keep.of_below hE); clear hE)
    go_ret
    exact ⟨rfl, S.below⟩
  have c1 : ¬ (800 : Int) < s.length := by omega
  have c2 : ¬ (800 : Int) < t.length := by omega
  have H1 := Lib.hid (fun w F F2 h h2 => Calls.mono (parse_calls tE pE s w F F2 h h2 (by omega)) fun e w' h => pa_two h)
  have H2 := Lib.hid (fun w F F2 h h2 => Calls.mono (parse_calls tE pE t w F F2 h h2 (by omega)) fun e w' h => pa_two h)
  have H3 := Lib.hid (fun w F F2 h h2 => Calls.mono (parse_calls tE pE (s ++ [10] ++ t) w F F2 h h2 (by simp; omega)) fun e w' h => pa_two h)
  have hla := parseT_len s
  have hlb := parseT_len t
  have hlc := parseT_len (s ++ [10] ++ t)
  obtain ⟨L1, L2, L3, L4⟩ := lines_law (s := s) (t := t) (by omega) (by omega)
  have hN : s.count 10 ≤ s.length := List.count_le_length
  have hk1 := parseT_lines (l := t) (by omega)
  generalize parseT (s ++ [10] ++ t) = qc at *
  rw [show s ++ [10] ++ t = s ++ 10 :: t by simp] at H3
  generalize parseT s = qa at *
  generalize parseT t = qb at *
  obtain ⟨A, i, e1⟩ := qa
  obtain ⟨B, k, f1⟩ := qb
  unfold PaPost2 at H1 H2 H3
  simp only at H1 H2 H3 L1 L2 L3 L4 hla hlb hlc hk1
  by_cases ha : e1 = 0
  · subst ha
    have hn0 : ((0 : Int) != 0) = false := rfl
    replace L2 := L2 rfl
    replace L3 := L3 rfl
    replace L4 := L4 rfl
    clear L1
    have HL2 := Lib.hid L2
    have HL3 := Lib.hid L3
    have HL4 := Lib.hid L4
    clear L2 L3 L4
    obtain ⟨C, n, g1⟩ := qc
    simp only at HL2 HL3 HL4 H3 hlc
    go_enter Tryd.func4, Tryd.ntmps4
    go_upto_region 10 with first | ((with_reducible apply wps_slen (T := 9)); (case hx => rfl); (case hT => exact Tryd.underlying9)) | ((with_reducible apply wps_sadd (T := 9)); (case hx | hy => rfl); (case hn => first | omega | (simp; omega))) | (go_at_call 7; obtain ⟨Fl, hLi⟩ := S.get (i := 0) rfl; obtain ⟨Ff, hFo⟩ := S.get (i := 1) rfl; (with_reducible refine Calls.mono (H1.out _ _ _ hLi hFo) ?_); clear hLi hFo; rintro e wz ⟨aa, ca, rfl, T⟩; replace S := (S.join T rfl); clear T; simp only [List.cons_append, List.nil_append] at S) | (go_at_call 7; obtain ⟨Fl, hLi⟩ := S.get (i := 1) rfl; obtain ⟨Ff, hFo⟩ := S.get (i := 2) rfl; (with_reducible refine Calls.mono (H2.out _ _ _ hLi hFo) ?_); clear hLi hFo; rintro e wz ⟨ab, cb, rfl, T⟩; replace S := (S.join T rfl).freeze true 0 docells rfl; clear T; simp only [List.cons_append, List.nil_append, List.set_cons_zero] at S) | (go_at_call 7; obtain ⟨Fl, hLi⟩ := S.get (i := 2) rfl; obtain ⟨Ff, hFo⟩ := S.get (i := 3) rfl; (with_reducible refine Calls.mono (H3.out _ _ _ hLi hFo) ?_); clear hLi hFo; rintro e wz ⟨ac, cc, rfl, T⟩; replace S := (S.join T rfl).freeze true 0 docells rfl; clear T; simp only [List.cons_append, List.nil_append, List.set_cons_zero] at S)
    go_loopw [14, 15] (fun n x wr => LiRel s w n x _ wr) (fun _ x _ => s.length - (intOf x).toNat)
    case atStart => exact ⟨0, Nat.zero_le _, rfl, rfl, S⟩
    case round =>
      clear S
      obtain ⟨j, hj, rfl, rfl, S⟩ := hrel
      by_cases hlt : j < s.length
      · have hlt2 : (j : Int) < s.length := by omega
        obtain ⟨b, hb⟩ : ∃ b, s[j]? = some b := ⟨_, List.getElem?_eq_getElem hlt⟩
        have HB := Lib.hid hb
        have HT : Hid ((s.take (j + 1)).count 10 = (s.take j).count 10 + if b = 10 then 1 else 0) := Lib.hid (by
          rw [List.take_add_one, hb, Option.toList_some, List.count_append, List.count_singleton]; simp)
        have htl : (s.take j).count 10 ≤ 800 := by
          have h1 : (s.take j).count 10 ≤ (s.take j).length := List.count_le_length
          rw [List.length_take] at h1; omega
        generalize (s.take j).count 10 = m at *
        by_cases h10 : b = 10
        · have HB10 : Hid ((b.toNat : Int) = 10) := Lib.hid (by rw [h10]; rfl)
          have HT2 : Hid ((s.take (j + 1)).count 10 = m + 1) := Lib.hid (by rw [HT.out, if_pos h10])
          clear hb HT h10
          go_wp2_with first | ((with_reducible apply wps_slen (T := 9)); (case hx => rfl); (case hT => exact Tryd.underlying9)) | ((with_reducible apply wps_sidx (T := 9)); (case hx | hy => rfl); (case hb => exact HB.out); (case h0 => omega); (case hT => exact Tryd.underlying9); (case hz => exact HB10.out))
          go_roundw
          case rel => exact ⟨j + 1, by omega, by go_num, by rw [HT2.out]; go_num, S⟩
          case measure => first | (simp [intOf]; done) | (simp [intOf]; omega)
        · have hz10 : ((b.toNat : Int) == 10) = false := by
            have e := u8_is b 10 (by omega)
            rw [show ((10 : Int)) = ((10 : Nat) : Int) from rfl, e, beq_eq_false_iff_ne]
            exact h10
          have HT2 : Hid ((s.take (j + 1)).count 10 = m) := Lib.hid (by rw [HT.out, if_neg h10]; rfl)
          clear hb HT h10
          go_wp2_with first | ((with_reducible apply wps_slen (T := 9)); (case hx => rfl); (case hT => exact Tryd.underlying9)) | ((with_reducible apply wps_sidx (T := 9)); (case hx | hy => rfl); (case hb => exact HB.out); (case h0 => omega); (case hT => exact Tryd.underlying9); (case hz => rfl))
          go_roundw
          case rel => exact ⟨j + 1, by omega, by go_num, by rw [HT2.out]; go_num, S⟩
          case measure => first | (simp [intOf]; done) | (simp [intOf]; omega)
      · obtain rfl : j = s.length := by omega
        have HTK : Hid (s.take s.length = s) := Lib.hid List.take_length
        rw [HTK.out]
        generalize s.count 10 = N at *
        by_cases hf : f1 = 0
        · subst hf
          replace HL3 := HL3.out rfl
          replace HL4 := HL4.out rfl
          clear HL2
          by_cases hfull : 4096 < A.length + B.length
          · obtain ⟨rfl, rfl, hn⟩ := HL3 hfull
            have c3 : (4096 : Int) < (A.length : Int) + B.length := by omega
            have c4 : (N : Int) + 1 < n := by omega
            clear HL3 HL4 hfull
            go_wp2_with first | ((with_reducible apply wps_slen (T := 9)); (case hx => rfl); (case hT => exact Tryd.underlying9)) | (go_at_call 6; refine Calls.mono (awake21_calls tE pE _ _ _ (S.get (i := 3) rfl).choose_spec (S.get (i := 4) rfl).choose_spec) ?_; rintro e wz ⟨rfl, hE⟩; replace S := S.ext (Keep.of_below hE); clear hE)
            go_ret
            exact ⟨rfl, S.below⟩
          · have hc := HL4 hfull
            simp only [Prod.mk.injEq] at hc
            obtain ⟨hCe, rfl, rfl⟩ := hc
            have HC := Lib.hid hCe.symm
            have HCL : Hid (C.length ≤ 65536) := Lib.hid (by omega)
            clear hCe hlc
            have c3 : ¬ (4096 : Int) < (A.length : Int) + B.length := by omega
            clear HL3 HL4 hfull
            go_upto_region 19 with first | ((with_reducible apply wps_slen (T := 9)); (case hx => rfl); (case hT => exact Tryd.underlying9)) | ((with_reducible apply wps_appends elem_KD docells doone (by decide) S 2 (j := 1)); (case hx | hy | hi | hj => rfl); (case hl => first | omega | (simp; omega)); clear S; intro az nz cz wz hnz S; simp only [List.set_cons_succ, List.set_cons_zero] at S)
            rw [HC.out] at S
            replace S := S.freeze true 2 docells rfl
            simp only [List.set_cons_succ, List.set_cons_zero] at S
            go_wp2_with first | (go_at_call 10; refine Calls.mono (dplain_calls _ C _ _ (S.get (i := 2) rfl).choose_spec HCL.out) ?_; rintro e wz ⟨ap, cp, rfl, T⟩; replace S := (S.join T rfl).freeze true 0 docells rfl; clear T; simp only [List.cons_append, List.nil_append, List.set_cons_zero] at S) | (go_at_call 9; refine Calls.mono (dsame_self _ _ C _ _ _ (S.get (i := 1) rfl).choose_spec (S.get (i := 0) rfl).choose_spec HCL.out) ?_; rintro e wz ⟨rfl, hE⟩; replace S := S.ext (Keep.of_below hE); clear hE) | (go_at_call 6; refine Calls.mono (awake21_calls tE pE _ _ _ (S.get (i := 4) rfl).choose_spec (S.get (i := 5) rfl).choose_spec) ?_; rintro e wz ⟨rfl, hE⟩; replace S := S.ext (Keep.of_below hE); clear hE)
            go_ret
            exact ⟨rfl, S.below⟩
        · have hfn : (f1 != 0) = true := by rw [bne_iff_ne]; exact hf
          obtain ⟨rfl, hor⟩ := HL2.out hf
          clear HL2 HL3 HL4 hf
          by_cases hA : g1 = f1 ∧ n = N + 1 + k
          · obtain ⟨rfl, rfl⟩ := hA
            clear hor
            have k1 : (g1 == g1) = true := beq_self_eq_true _
            have k2 : (((N + 1 + k : Nat) : Int) == (N : Int) + 1 + k) = true := by rw [beq_iff_eq]; omega
            go_wp2_with first | ((with_reducible apply wps_slen (T := 9)); (case hx => rfl); (case hT => exact Tryd.underlying9)) | (go_at_call 6; refine Calls.mono (awake21_calls tE pE _ _ _ (S.get (i := 3) rfl).choose_spec (S.get (i := 4) rfl).choose_spec) ?_; rintro e wz ⟨rfl, hE⟩; replace S := S.ext (Keep.of_below hE); clear hE)
            go_ret
            exact ⟨rfl, S.below⟩
          · obtain ⟨rfl, hn1, hn2⟩ : g1 = 11 ∧ N + 1 < n ∧ n ≤ N + 1 + k := by
              rcases hor with h | h
              · exact absurd h hA
              · exact h
            clear hor
            have c4 : (N : Int) + 1 < n := by omega
            have c5 : (n : Int) ≤ (N : Int) + 1 + k := by omega
            by_cases hg : f1 = 11
            · subst hg
              have k2 : ((n : Int) == (N : Int) + 1 + k) = false := by
                rw [beq_eq_false_iff_ne]; intro e; exact hA ⟨rfl, by omega⟩
              clear hA hfn
              go_wp2_with first | ((with_reducible apply wps_slen (T := 9)); (case hx => rfl); (case hT => exact Tryd.underlying9)) | (go_at_call 6; refine Calls.mono (awake21_calls tE pE _ _ _ (S.get (i := 3) rfl).choose_spec (S.get (i := 4) rfl).choose_spec) ?_; rintro e wz ⟨rfl, hE⟩; replace S := S.ext (Keep.of_below hE); clear hE)
              go_ret
              exact ⟨rfl, S.below⟩
            · have k2 : ((11 : Int) == f1) = false := by
                rw [beq_eq_false_iff_ne]; exact fun e => hg e.symm
              clear hA hg
              go_wp2_with first | ((with_reducible apply wps_slen (T := 9)); (case hx => rfl); (case hT => exact Tryd.underlying9)) | (go_at_call 6; refine Calls.mono (awake21_calls tE pE _ _ _ (S.get (i := 3) rfl).choose_spec (S.get (i := 4) rfl).choose_spec) ?_; rintro e wz ⟨rfl, hE⟩; replace S := S.ext (Keep.of_below hE); clear hE)
              go_ret
              exact ⟨rfl, S.below⟩
  · obtain rfl := L1 ha
    have hn0 : (e1 != 0) = true := by rw [bne_iff_ne]; exact ha
    have k1 : ((i : Int) == i) = true := beq_self_eq_true _
    have k2 : (e1 == e1) = true := beq_self_eq_true _
    clear L1 L2 L3 L4 ha
    go_enter Tryd.func4, Tryd.ntmps4
    go_wp2_with first | ((with_reducible apply wps_slen (T := 9)); (case hx => rfl); (case hT => exact Tryd.underlying9)) | ((with_reducible apply wps_sadd (T := 9)); (case hx | hy => rfl); (case hn => first | omega | (simp; omega))) | (go_at_call 7; obtain ⟨Fl, hLi⟩ := S.get (i := 0) rfl; obtain ⟨Ff, hFo⟩ := S.get (i := 1) rfl; (with_reducible refine Calls.mono (H1.out _ _ _ hLi hFo) ?_); clear hLi hFo; rintro e wz ⟨aa, ca, rfl, T⟩; replace S := (S.join T rfl); clear T; simp only [List.cons_append, List.nil_append] at S) | (go_at_call 7; obtain ⟨Fl, hLi⟩ := S.get (i := 1) rfl; obtain ⟨Ff, hFo⟩ := S.get (i := 2) rfl; (with_reducible refine Calls.mono (H2.out _ _ _ hLi hFo) ?_); clear hLi hFo; rintro e wz ⟨ab, cb, rfl, T⟩; replace S := (S.join T rfl).freeze true 0 docells rfl; clear T; simp only [List.cons_append, List.nil_append, List.set_cons_zero] at S) | (go_at_call 7; obtain ⟨Fl, hLi⟩ := S.get (i := 2) rfl; obtain ⟨Ff, hFo⟩ := S.get (i := 3) rfl; (with_reducible refine Calls.mono (H3.out _ _ _ hLi hFo) ?_); clear hLi hFo; rintro e wz ⟨ac, cc, rfl, T⟩; replace S := (S.join T rfl).freeze true 0 docells rfl; clear T; simp only [List.cons_append, List.nil_append, List.set_cons_zero] at S) | (go_at_call 6; refine Calls.mono (awake21_calls tE pE _ _ _ (S.get (i := 3) rfl).choose_spec (S.get (i := 4) rfl).choose_spec) ?_; rintro e wz ⟨rfl, hE⟩; replace S := S.ext (Keep.of_below hE); clear hE)
    go_ret
    exact ⟨rfl, S.below⟩
end Go.Proofs.YtkcnbejpmknaoaaDoor

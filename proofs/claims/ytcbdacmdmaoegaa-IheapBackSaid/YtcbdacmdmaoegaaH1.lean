import Derived.Test.Ytcbdacmdmaoegaaref3b
/- The walk of law03's Ints; what a call does to a heap, plain. -/
namespace Go.Proofs.Ytcbdacmdmaoegaa
open Go Go.RowKit Reg Mem

def IntsRel (v1 v2 : Value) (xs ys : List Int) (w : World) (i : Value) (wr : World) : Prop :=
  ∃ j : Nat, j ≤ xs.length ∧ i = .int .i64 j ∧ (∀ q : Nat, q < j → xs[q]? = ys[q]?) ∧ St (fun _ => False) w wr [Sl true tE 1 v2 ys, Sl true tE 1 v1 xs]
set_option maxRecDepth 100000 in
set_option maxHeartbeats 4000000 in
theorem ints_calls (v1 v2 : Value) (xs ys : List Int) (w : World) (F1 F2 : Nat → Prop) (h1 : (Sl true tE 1 v1 xs).at_ w F1) (h2 : (Sl true tE 1 v2 ys).at_ w F2) (hn : xs.length ≤ 65536) (hn2 : ys.length ≤ 65536) :
    Calls Try.prog 40 #[v1, v2] w fun r w' => r = .returned (.bool (decide (xs = ys))) ∧ Below w.heap.size w w' := by
  have S : St (fun _ => False) w w [Sl true tE 1 v2 ys, Sl true tE 1 v1 xs] := ((St.init _ w).share rfl rfl h1).share rfl rfl h2
  obtain ⟨ad2, c2, rfl, _⟩ := (S.sl 0 rfl).elim fun _ h => h.form
  obtain ⟨ad1, c1, rfl, _⟩ := (S.sl 1 rfl).elim fun _ h => h.form
  clear h1 h2
  by_cases hl : xs.length = ys.length
  · have hl2 : (xs.length : Int) = ys.length := by omega
    have HL := Lib.hid hl
    clear hl
    go_enter Try.func40, Try.ntmps40
    go_wp2_with first
      | ((with_reducible refine tot_done ?ht ?_); (case ht => kernel_rfl))
      | ((with_reducible apply wps_text S); (case hm => kernel_rfl); (case hB => decide +kernel); clear S; intro wz S)
      | ((with_reducible apply wps_load S 0); (case hx => rfl); (case hi => rfl); (case hT => decide +kernel); (case hu => rfl))
      | ((with_reducible apply wps_load S 1); (case hx => rfl); (case hi => rfl); (case hT => decide +kernel); (case hu => rfl))
      | ((with_reducible apply wps_load S 2); (case hx => rfl); (case hi => rfl); (case hT => decide +kernel); (case hu => rfl))
      | ((with_reducible apply wps_load S 3); (case hx => rfl); (case hi => rfl); (case hT => decide +kernel); (case hu => rfl))
    go_loopw [5] (fun i wr => IntsRel (.slice ad1 xs.length c1) (.slice ad2 ys.length c2) xs ys w i wr) (fun i _ => xs.length - (intOf i).toNat)
    case atStart => exact ⟨0, Nat.zero_le _, rfl, fun q h => by omega, S⟩
    case round =>
      clear S
      obtain ⟨j, hj, rfl, he, S⟩ := hrel
      have He := Lib.hid he
      clear he
      by_cases hlt : j < xs.length
      · obtain ⟨x, hx⟩ : ∃ x, xs[j]? = some x := ⟨_, List.getElem?_eq_getElem hlt⟩
        obtain ⟨y, hy⟩ : ∃ y, ys[j]? = some y := ⟨_, List.getElem?_eq_getElem (by have := HL.out; omega)⟩
        obtain ⟨R1, o1, rfl⟩ : ∃ R o, ad1 = some ⟨R, o, none⟩ := (S.sl 1 rfl).elim fun F h => h.head (by omega)
        obtain ⟨R2, o2, rfl⟩ : ∃ R o, ad2 = some ⟨R, o, none⟩ := (S.sl 0 rfl).elim fun F h => h.head (by have := HL.out; omega)
        have hlt2 : (j : Int) < xs.length := by omega
        have hlt3 : (j : Int) < ys.length := by omega
        have hlt4 : j < ys.length := by omega
        by_cases hxy : x = y
        · have HN : (x != y) = false := by simp [hxy]
          have HXY := Lib.hid hxy
          clear hxy
          have Hx := Lib.hid hx
          have Hy := Lib.hid hy
          clear hx hy
          go_wp2_with first
            | ((with_reducible apply wps_load_el S 1 (hj := Hx.out) (q := 0) (u := .int .i64 x)); (case hx => rfl); (case hi => rfl); (case hn => omega); (case hT => decide +kernel); (case hu => rfl))
            | ((with_reducible apply wps_load_el S 0 (hj := Hy.out) (q := 0) (u := .int .i64 y)); (case hx => rfl); (case hi => rfl); (case hn => omega); (case hT => decide +kernel); (case hu => rfl))
            | ((with_reducible refine tot_done ?ht ?_); (case ht => kernel_rfl))
            | ((with_reducible apply wps_text S); (case hm => kernel_rfl); (case hB => decide +kernel); clear S; intro wz S)
            | ((with_reducible apply wps_load S 0); (case hx => rfl); (case hi => rfl); (case hT => decide +kernel); (case hu => rfl))
            | ((with_reducible apply wps_load S 1); (case hx => rfl); (case hi => rfl); (case hT => decide +kernel); (case hu => rfl))
            | ((with_reducible apply wps_load S 2); (case hx => rfl); (case hi => rfl); (case hT => decide +kernel); (case hu => rfl))
            | ((with_reducible apply wps_load S 3); (case hx => rfl); (case hi => rfl); (case hT => decide +kernel); (case hu => rfl))
          go_roundw
          case rel =>
            refine ⟨j + 1, by omega, by go_num, fun q hq => ?_, S⟩
            by_cases e : q = j
            · subst e; rw [Hx.out, Hy.out, HXY.out]
            · exact He.out q (by omega)
          case measure => simp [intOf]; omega
        · have HN : (x != y) = true := by simp [hxy]
          have HXY := Lib.hid hxy
          clear hxy
          have Hx := Lib.hid hx
          have Hy := Lib.hid hy
          clear hx hy
          go_wp2_with first
            | ((with_reducible apply wps_load_el S 1 (hj := Hx.out) (q := 0) (u := .int .i64 x)); (case hx => rfl); (case hi => rfl); (case hn => omega); (case hT => decide +kernel); (case hu => rfl))
            | ((with_reducible apply wps_load_el S 0 (hj := Hy.out) (q := 0) (u := .int .i64 y)); (case hx => rfl); (case hi => rfl); (case hn => omega); (case hT => decide +kernel); (case hu => rfl))
            | ((with_reducible refine tot_done ?ht ?_); (case ht => kernel_rfl))
            | ((with_reducible apply wps_text S); (case hm => kernel_rfl); (case hB => decide +kernel); clear S; intro wz S)
            | ((with_reducible apply wps_load S 0); (case hx => rfl); (case hi => rfl); (case hT => decide +kernel); (case hu => rfl))
            | ((with_reducible apply wps_load S 1); (case hx => rfl); (case hi => rfl); (case hT => decide +kernel); (case hu => rfl))
            | ((with_reducible apply wps_load S 2); (case hx => rfl); (case hi => rfl); (case hT => decide +kernel); (case hu => rfl))
            | ((with_reducible apply wps_load S 3); (case hx => rfl); (case hi => rfl); (case hT => decide +kernel); (case hu => rfl))
          go_ret
          exact ⟨ret_bool (by symm; rw [decide_eq_false_iff_not]; rintro rfl; rw [Hx.out] at Hy; exact HXY.out (Option.some.inj Hy.out)), S.below⟩
      · obtain rfl : j = xs.length := by omega
        go_wp2_with first
          | ((with_reducible refine tot_done ?ht ?_); (case ht => kernel_rfl))
          | ((with_reducible apply wps_text S); (case hm => kernel_rfl); (case hB => decide +kernel); clear S; intro wz S)
          | ((with_reducible apply wps_load S 0); (case hx => rfl); (case hi => rfl); (case hT => decide +kernel); (case hu => rfl))
          | ((with_reducible apply wps_load S 1); (case hx => rfl); (case hi => rfl); (case hT => decide +kernel); (case hu => rfl))
          | ((with_reducible apply wps_load S 2); (case hx => rfl); (case hi => rfl); (case hT => decide +kernel); (case hu => rfl))
          | ((with_reducible apply wps_load S 3); (case hx => rfl); (case hi => rfl); (case hT => decide +kernel); (case hu => rfl))
        go_ret
        refine ⟨ret_bool ?_, S.below⟩
        symm
        rw [decide_eq_true_eq]
        refine List.ext_getElem? fun q => ?_
        by_cases hq : q < xs.length
        · exact He.out q hq
        · have := HL.out
          rw [List.getElem?_eq_none (by omega), List.getElem?_eq_none (by omega)]
  · have hl2 : ¬ (xs.length : Int) = ys.length := by omega
    have HL := Lib.hid hl
    clear hl
    go_enter Try.func40, Try.ntmps40
    go_wp2_with first
      | ((with_reducible refine tot_done ?ht ?_); (case ht => kernel_rfl))
      | ((with_reducible apply wps_text S); (case hm => kernel_rfl); (case hB => decide +kernel); clear S; intro wz S)
      | ((with_reducible apply wps_load S 0); (case hx => rfl); (case hi => rfl); (case hT => decide +kernel); (case hu => rfl))
      | ((with_reducible apply wps_load S 1); (case hx => rfl); (case hi => rfl); (case hT => decide +kernel); (case hu => rfl))
      | ((with_reducible apply wps_load S 2); (case hx => rfl); (case hi => rfl); (case hT => decide +kernel); (case hu => rfl))
      | ((with_reducible apply wps_load S 3); (case hx => rfl); (case hi => rfl); (case hT => decide +kernel); (case hu => rfl))
    go_ret
    exact ⟨ret_bool (by symm; rw [decide_eq_false_iff_not]; rintro rfl; exact HL.out rfl), S.below⟩
/-- A call. -/
structure Op3 where
  ask : Int
  k : Key
  v : Int
def Op3.cells (o : Op3) : List Value := [.int .i64 o.ask, .int .i64 o.k.at_, .int .i64 o.k.src, .int .i64 o.k.sent, .int .i64 o.k.no, .int .i64 o.v]
/-- What there is behind it. -/
def stepE (s : List Row) (o : Op3) : List Row :=
  if o.ask = 0 then pushed s ⟨o.k, o.v⟩ else if o.ask = 1 then pulled s o.k else if o.ask = 2 then s else if o.ask = 4 then (match s with | [] => [] | r :: l => (r :: l).dropWhile (same_at r.key.at_)) else if o.ask = 3 then s.tail else s
theorem pushed_sorted {s : List Row} (h : HSorted s) (r : Row) : HSorted (pushed s r) := by
  unfold pushed
  split
  · exact h
  · exact ins_sorted _ _ h ‹_›
theorem step_sorted {s : List Row} (h : HSorted s) (o : Op3) : HSorted (stepE s o) := by
  unfold stepE
  split
  · exact pushed_sorted h _
  · split
    · exact filter_sorted h _
    · split
      · exact h
      · split
        · cases s with
          | nil => exact h
          | cons r l => exact h.sublist (List.dropWhile_sublist _)
        · split
          · cases s with
            | nil => exact h
            | cons r l => exact (List.pairwise_cons.1 h).2
          · exact h
theorem pushed_length (s : List Row) (r : Row) : (pushed s r).length ≤ s.length + 1 := by
  unfold pushed
  split
  · omega
  · rw [ins_length]; omega
theorem step_length (s : List Row) (o : Op3) : (stepE s o).length ≤ s.length + 1 := by
  unfold stepE
  split
  · exact pushed_length _ _
  · split
    · have := List.length_filter_le (fun x : Row => decide (x.key ≠ o.k)) s; unfold pulled; omega
    · split
      · omega
      · split
        · cases s with
          | nil => simp
          | cons r l => have h1 := (List.dropWhile_sublist (same_at r.key.at_) (l := r :: l)).length_le; show (List.dropWhile (same_at r.key.at_) (r :: l)).length ≤ _; omega
        · split
          · simp; omega
          · omega
theorem rins_ins {s : List Row} (h : HSorted s) {r : Row} (hk : r.key ∉ s.map (·.key)) : rins s r = ins r s := by
  induction s with
  | nil => simp [rins, ins]
  | cons a l ih =>
    simp only [List.map_cons, List.mem_cons, not_or] at hk
    have hl := (List.pairwise_cons.1 h)
    unfold ins
    by_cases e : a.key.lt r.key = true
    · have e2 : r.key.lt a.key = false := Key.lt_asymm' e
      rw [if_neg (by simp [e2]), ← ih hl.2 hk.2]
      simp [rins, e]
    · have e1 : a.key.lt r.key = false := by simpa using e
      have e2 : r.key.lt a.key = true := by
        cases h2 : r.key.lt a.key with
        | true => rfl
        | false => exact absurd (Key.eq_of h2 e1) (fun e => hk.1 e)
      rw [if_pos e2]
      simp [rins, e1]
theorem rpush_pushed {s : List Row} (h : HSorted s) (r : Row) : rpush s r = (PushAns s r, pushed s r) := by
  unfold rpush PushAns pushed
  split
  · rfl
  · rw [rins_ins h ‹_›]
end Go.Proofs.Ytcbdacmdmaoegaa

import Derived.Test.YtejdfgonkfgnfaaK9
/- The walk of the law KeysLeast. -/
namespace Go.Proofs.Ytejdfgonkfgnfaa
open Go Go.RowKit Reg Mem

/-- The least of what f says of some things. -/
def IsLeast (f : Message → Int) (l : List Message) (x : Int) : Prop := (∀ m ∈ l, x ≤ f m) ∧ ∃ m ∈ l, f m = x
theorem IsLeast.one {f : Message → Int} {l : List Message} {x y : Int} (h : IsLeast f l x) (k : IsLeast f l y) : x = y := by
  obtain ⟨m, hm, rfl⟩ := h.2
  obtain ⟨n, hn, rfl⟩ := k.2
  have := h.1 n hn
  have := k.1 m hm
  omega
theorem minTo_least {f : Message → Int} (a : Message) (l : List Message) : IsLeast f (a :: l) (minTo f (a :: l) (f a) (a :: l).length) := by
  refine ⟨fun m hm => ?_, ?_⟩
  · obtain ⟨i, hi, rfl⟩ := List.mem_iff_getElem.1 hm
    exact minTo_le i _ hi (List.getElem?_eq_getElem hi)
  · rcases minTo_mem (f := f) (l := a :: l) (x := f a) (n := (a :: l).length) with h | ⟨i, b, hi, hb, h⟩
    · exact ⟨a, by simp, h.symm⟩
    · exact ⟨b, List.mem_of_getElem? hb, h.symm⟩
theorem leastAt_is {l : List Message} (h : l ≠ []) : IsLeast (fun m => m.ev.key.at_) l (leastAt l) := by
  cases l with
  | nil => exact absurd rfl h
  | cons a l => exact minTo_least a l
theorem leastSent_is {l : List Message} (h : l ≠ []) : IsLeast (fun m => m.ev.key.sent) l (leastSent l) := by
  cases l with
  | nil => exact absurd rfl h
  | cons a l => exact minTo_least a l
theorem IsLeast.append {f : Message → Int} {l m : List Message} {x y : Int} (h : IsLeast f l x) (k : IsLeast f m y) : IsLeast f (l ++ m) (min x y) := by
  refine ⟨fun a ha => ?_, ?_⟩
  · rcases List.mem_append.1 ha with ha | ha
    · have := h.1 a ha; omega
    · have := k.1 a ha; omega
  · by_cases hle : x ≤ y
    · obtain ⟨a, ha, e⟩ := h.2
      exact ⟨a, List.mem_append_left _ ha, by omega⟩
    · obtain ⟨a, ha, e⟩ := k.2
      exact ⟨a, List.mem_append_right _ ha, by omega⟩
theorem leftTo_mem {l : List Message} {n : Nat} : ∀ m ∈ leftTo l n, m ∈ l := by
  induction n with
  | zero => intro m h; simp [leftTo] at h
  | succ n ih =>
    intro m h
    simp only [leftTo, List.mem_append] at h
    rcases h with h | h
    · exact ih m h
    · split at h
      · rename_i a ha
        split at h
        · simp at h; subst h; exact List.mem_of_getElem? ha
        · simp at h
      · simp at h
theorem leastAt_app {l m : List Message} (h : l ≠ []) (k : m ≠ []) : leastAt (l ++ m) = min (leastAt l) (leastAt m) :=
  (leastAt_is (by simp [h])).one ((leastAt_is h).append (leastAt_is k))
theorem leastSent_app {l m : List Message} (h : l ≠ []) (k : m ≠ []) : leastSent (l ++ m) = min (leastSent l) (leastSent m) :=
  (leastSent_is (by simp [h])).one ((leastSent_is h).append (leastSent_is k))
theorem least_left {l : List Message} (h : left l ≠ []) : leastAt l ≤ leastAt (left l) ∧ leastSent l ≤ leastSent (left l) := by
  have hl : l ≠ [] := fun e => by subst e; simp [left, leftTo] at h
  obtain ⟨a, ha, e⟩ := (leastAt_is h).2
  obtain ⟨b, hb, e2⟩ := (leastSent_is h).2
  exact ⟨by rw [← e]; exact (leastAt_is hl).1 a (leftTo_mem a ha), by rw [← e2]; exact (leastSent_is hl).1 b (leftTo_mem b hb)⟩
theorem least_some (v : Value) (l : List Message) (w : World) (F : Nat → Prop) (h : (Sl true Message.cells 8 v l).at_ w F) (h0 : l ≠ []) (hn : l.length ≤ 65536) :
    Calls Try.prog 17 #[v] w fun r w' => r = .returned (.tuple #[.int .i64 (leastAt l), .int .i64 (leastSent l), .int .i64 0]) ∧ Below w.heap.size w w' := by
  cases l with
  | nil => exact absurd rfl h0
  | cons a l => exact least_calls v a l w F h hn
set_option maxRecDepth 100000 in
set_option maxHeartbeats 8000000 in
theorem kleast_calls (v1 v2 : Value) (xs ys : List Message) (w : World) (F1 F2 : Nat → Prop) (h1 : (Sl true Message.cells 8 v1 xs).at_ w F1) (h2 : (Sl true Message.cells 8 v2 ys).at_ w F2) :
    Calls Try.prog 6 #[v1, v2] w fun r w' => r = .returned (.bool true) ∧ Below w.heap.size w w' := by
  have S : St (fun _ => False) w w [Sl true Message.cells 8 v2 ys, Sl true Message.cells 8 v1 xs] := ((St.init _ w).share rfl rfl h1).share rfl rfl h2
  obtain ⟨ad2, c2, rfl, _⟩ := (S.sl 0 rfl).elim fun _ h => h.form
  obtain ⟨ad1, c1, rfl, _⟩ := (S.sl 1 rfl).elim fun _ h => h.form
  clear h1 h2
  by_cases g1 : (30 : Int) < xs.length
  · go_enter Try.func6, Try.ntmps6
    go_wp2_with first
      | go_skip
      | (go_at_call 12; refine Calls.mono (awake_calls _) ?_; rintro e wz ⟨rfl, hE⟩; replace S := S.ext (Keep.of_below hE); clear hE)
      | ((with_reducible refine tot_done ?ht ?_); (case ht => kernel_rfl))
    go_ret
    exact ⟨by simp, S.below⟩
  by_cases g2 : (30 : Int) < ys.length
  · go_enter Try.func6, Try.ntmps6
    go_wp2_with first
      | go_skip
      | (go_at_call 12; refine Calls.mono (awake_calls _) ?_; rintro e wz ⟨rfl, hE⟩; replace S := S.ext (Keep.of_below hE); clear hE)
      | ((with_reducible refine tot_done ?ht ?_); (case ht => kernel_rfl))
    go_ret
    exact ⟨by simp, S.below⟩
  by_cases g3 : xs.length = 0
  · obtain rfl : xs = [] := List.eq_nil_of_length_eq_zero g3
    simp only [List.length_nil] at S
    go_enter Try.func6, Try.ntmps6
    go_wp2_with first
      | go_skip
      | (go_at_call 12; refine Calls.mono (awake_calls _) ?_; rintro e wz ⟨rfl, hE⟩; replace S := S.ext (Keep.of_below hE); clear hE)
      | ((with_reducible refine tot_done ?ht ?_); (case ht => kernel_rfl))
    go_ret
    exact ⟨by simp, S.below⟩
  have g3b : ((xs.length : Int) == 0) = false := beq_eq_false_iff_ne.2 (by omega)
  by_cases g4 : ys.length = 0
  · obtain rfl : ys = [] := List.eq_nil_of_length_eq_zero g4
    simp only [List.length_nil] at S
    go_enter Try.func6, Try.ntmps6
    go_wp2_with first
      | go_skip
      | (go_at_call 12; refine Calls.mono (awake_calls _) ?_; rintro e wz ⟨rfl, hE⟩; replace S := S.ext (Keep.of_below hE); clear hE)
      | ((with_reducible refine tot_done ?ht ?_); (case ht => kernel_rfl))
    go_ret
    exact ⟨by simp, S.below⟩
  have g4b : ((ys.length : Int) == 0) = false := beq_eq_false_iff_ne.2 (by omega)
  have hx0 : xs ≠ [] := fun e => g3 (by simp [e])
  have hy0 : ys ≠ [] := fun e => g4 (by simp [e])
  have ha0 : xs ++ ys ≠ [] := by simp [hx0]
  replace S := S.nil 34 Message.cells 8
  go_enter Try.func6, Try.ntmps6
  go_wp2_with first
    | go_skip
    | ((with_reducible apply wps_appends elem_Msg mcells mone (by decide) S 0 (j := 2)); (case hx => rfl); (case hy => rfl); (case hi => rfl); (case hj => rfl); (case hl => first | omega | (simp; omega)); clear S; intro az nz cz wz hnz S; simp only [List.set_cons_zero] at S)
    | ((with_reducible apply wps_appends elem_Msg mcells mone (by decide) S 0 (j := 1)); (case hx => rfl); (case hy => rfl); (case hi => rfl); (case hj => rfl); (case hl => first | omega | (simp; omega)); clear S; intro az nz cz wz hnz S; simp only [List.set_cons_zero] at S)
    | ((with_reducible refine tot_done ?ht ?_); (case ht => kernel_rfl))
  replace S := S.freeze true 0 mcells rfl
  simp only [List.set_cons_zero, List.nil_append] at S
  have hal : (xs ++ ys).length ≤ 65536 := by simp; omega
  have e1 := leastAt_app hx0 hy0
  have e2 := leastSent_app hx0 hy0
  refine Calls.mono (least_some _ xs _ _ (S.get (i := 2) rfl).choose_spec hx0 (by omega)) ?_
  rintro e wz ⟨rfl, hE⟩
  replace S := S.ext (Keep.of_below hE)
  clear hE
  go_wp2_with first
    | go_skip
    | ((with_reducible refine tot_done ?ht ?_); (case ht => kernel_rfl))
  refine Calls.mono (least_some _ ys _ _ (S.get (i := 1) rfl).choose_spec hy0 (by omega)) ?_
  rintro e wz ⟨rfl, hE⟩
  replace S := S.ext (Keep.of_below hE)
  clear hE
  go_wp2_with first
    | go_skip
    | ((with_reducible refine tot_done ?ht ?_); (case ht => kernel_rfl))
  refine Calls.mono (least_some _ (xs ++ ys) _ _ (S.get (i := 0) rfl).choose_spec ha0 hal) ?_
  rintro e wz ⟨rfl, hE⟩
  replace S := S.ext (Keep.of_below hE)
  clear hE
  rw [e1, e2]
  have HL : Hid (left (xs ++ ys) ≠ [] → min (leastAt xs) (leastAt ys) ≤ leastAt (left (xs ++ ys)) ∧ min (leastSent xs) (leastSent ys) ≤ leastSent (left (xs ++ ys))) := fun h => by
    have := least_left h
    rwa [e1, e2] at this
  clear e1 e2
  go_wp2_with first
    | go_skip
    | ((with_reducible refine tot_done ?ht ?_); (case ht => kernel_rfl))
  refine Calls.mono (settle_calls _ (xs ++ ys) _ _ (S.get (i := 0) rfl).choose_spec hal) ?_
  rintro e wz (⟨_, rfl, hE⟩ | ⟨_, ad, c, rfl, T⟩)
  · replace S := S.ext (Keep.of_below hE)
    clear hE HL
    go_wp2_with first
      | go_skip
      | (go_at_call 12; refine Calls.mono (awake_calls _) ?_; rintro e wz ⟨rfl, hE⟩; replace S := S.ext (Keep.of_below hE); clear hE)
      | ((with_reducible refine tot_done ?ht ?_); (case ht => kernel_rfl))
    go_ret
    exact ⟨by simp, S.below⟩
  · replace S := S.join T rfl
    clear T
    simp only [List.cons_append, List.nil_append] at S
    replace S := S.freeze true 0 mcells rfl
    simp only [List.set_cons_zero] at S
    have hll : (left (xs ++ ys)).length ≤ 65536 := Nat.le_trans (leftTo_len _ _) hal
    generalize left (xs ++ ys) = lf at *
    by_cases h0 : lf.length = 0
    · obtain rfl : lf = [] := List.eq_nil_of_length_eq_zero h0
      clear HL
      simp only [List.length_nil] at S
      go_wp2_with first
        | go_skip
        | (go_at_call 12; refine Calls.mono (awake_calls _) ?_; rintro e wz ⟨rfl, hE⟩; replace S := S.ext (Keep.of_below hE); clear hE)
        | ((with_reducible refine tot_done ?ht ?_); (case ht => kernel_rfl))
      go_ret
      exact ⟨by simp, S.below⟩
    · have h0b : ((lf.length : Int) == 0) = false := beq_eq_false_iff_ne.2 (by omega)
      have hne : lf ≠ [] := fun e => h0 (by simp [e])
      obtain ⟨k1, k2⟩ := HL.out hne
      have Hne := Lib.hid hne
      clear HL h0 hne
      go_wp2_with first
        | go_skip
        | ((with_reducible refine tot_done ?ht ?_); (case ht => kernel_rfl))
      refine Calls.mono (least_some _ lf _ _ (S.get (i := 0) rfl).choose_spec Hne.out hll) ?_
      rintro e wz ⟨rfl, hE⟩
      replace S := S.ext (Keep.of_below hE)
      clear hE
      generalize leastAt lf = p at *
      generalize leastSent lf = q at *
      generalize min (leastAt xs) (leastAt ys) = x at *
      generalize min (leastSent xs) (leastSent ys) = y at *
      go_wp2_with first
        | go_skip
        | (go_at_call 12; refine Calls.mono (awake_calls _) ?_; rintro e wz ⟨rfl, hE⟩; replace S := S.ext (Keep.of_below hE); clear hE)
        | ((with_reducible refine tot_done ?ht ?_); (case ht => kernel_rfl))
      go_ret
      exact ⟨by simp, S.below⟩
end Go.Proofs.Ytejdfgonkfgnfaa

import Derived.Test.YtcbdacmdmaoegaaHe4
import Derived.WalkSpells
import Derived.Laws.Externs
import Derived.MapKept
/- The walk of a heap's Copy, with maps.Clone and slices.Clone. -/
namespace Go.Proofs.Ytcbdacmdmaoegaa
open Go.RowKit Reg Mem
set_option maxRecDepth 100000 in
/-- slices.Clone. -/
theorem clone_Row {ad : Option Addr} {n c : Nat} {xs : List _} (w : World) (F : Nat → Prop) (h : (Sl true Row.cells 5 (.slice ad n c) xs).at_ w F) (hn : xs.length ≤ 4294967296) :
    Calls Try.prog 46 #[.slice ad n c] w fun e w' => ∃ ad' c', e = .returned (.slice ad' xs.length c') ∧ (0 < xs.length → ∃ R, ad' = some ⟨R, 0, none⟩) ∧ St (fun _ => False) w w' [Own 90 Row.cells 5 (.slice ad' xs.length c') xs] := by
  have S : St (fun _ => False) w w [Sl true Row.cells 5 (.slice ad n c) xs] := (St.init _ w).share rfl rfl h
  have hq : ∀ (w : World) (a : Option Addr) (n c n' c' : Nat), (binOp .eql 83 (.slice a n c) (.slice none n' c')).run Try.prog w = .ok (.bool a.isNone) w := fun w a n c n' c' => Lib.run_eql_slice_nil w _ _ a n c n' c' Try.underlying83
  cases ad with
  | none =>
    have hx : xs = [] := by
      obtain ⟨a, c', e, h1, h2, _⟩ := h.1
      simp only [Value.slice.injEq] at e
      obtain ⟨rfl, rfl, rfl⟩ := e
      exact List.eq_nil_of_length_eq_zero (by have := h2 rfl; omega)
    subst hx
    go_enter Try.func46, Try.ntmps46
    go_wp2_with first
      | ((with_reducible refine tot_done ?ht ?_); (case ht => kernel_rfl))
    go_ret
    exact ⟨_, _, rfl, fun h => absurd h (by simp), ((S.nil 90 Row.cells 5).pick [0] rfl)⟩
  | some a0 =>
    go_enter Try.func46, Try.ntmps46
    go_wp2_with first
      | ((with_reducible apply wps_build0 (T := 83) (E := 90) Row.cells 5 S); (case hr => intro w; kernel_rfl); clear S; intro bz wz S)
      | ((with_reducible apply wps_appends elem_Row hcells hone (by decide) S 0 (j := 1)); (case hx => rfl); (case hy => rfl); (case hi => rfl); (case hj => rfl); (case hl => first | omega | (simp; omega)); clear S; intro az nz cz wz hnz S; simp only [List.set_cons_zero] at S)
      | ((with_reducible refine tot_done ?ht ?_); (case ht => kernel_rfl))
    go_ret
    obtain rfl : nz = xs.length := by have := hnz.out; simp at this; omega
    simp only [List.nil_append] at S
    refine ⟨_, _, rfl, fun h0 => ?_, S.pick [0] rfl⟩
    obtain ⟨F, hF⟩ := S.get (i := 0) rfl
    rcases hF.1.2 with ⟨_, e⟩ | ⟨g, cap, cur, e, _⟩
    · omega
    · simp only [Value.slice.injEq] at e; exact ⟨g, e.1⟩
theorem eql_map_nil {P : Program} (w : World) (t k e : TypeId) (p : Option Nat) (h : P.underlying t = some (.map k e)) : (binOp .eql t (.map p) (.map none)).run P w = .ok (.bool p.isNone) w := by
  have h0 : ∀ d : Nat, (Op.equalIn (d + 1) t (.map p) (.map none)).run P w = .ok p.isNone w := fun d => by cases p <;> simp [Op.equalIn, run_underlying h]
  simp only [binOp]
  simp [Op.equal, Op.maxDepth, h0 9999]
theorem run_mapsclone (w : World) {r : Nat} {es : Array MapEntry} {clock : Nat} {P : Program} (t : TypeId) (hb : w.heap[r]? = some (.map es clock)) :
    (Extern.MapsClone.clone #[.iface t (.map (some r))]).run P w = .ok (.iface t (.map (some w.heap.size))) (w.alloc (.map es clock)) := by
  have e : Extern.MapsClone.clone #[.iface t (.map (some r))] = (getObj r >>= fun o => match o with
      | .map entries clock => (newObj (.map entries clock) >>= fun n => pure (.iface t (.map (some n))))
      | _ => stuck "maps.clone: a map expected") := rfl
  rw [e]
  simp [MapKept.run_getObj_map hb, Result.andThen, go_sem]
theorem run_assert_map {P : Program} (w : World) (t xT k e : TypeId) (v : Value) (h : P.underlying t = some (.map k e)) : (Instr.typeAssert (.iface t v) xT t false).run P w = .ok v w := by
  simp [Instr.typeAssert, run_underlying h, go_sem, Result.andThen]
theorem mapIs_copy {P : Program} {w w' : World} {M M' : Nat} {K : TypeId} {m : Key → Option Value} {es : Array MapEntry} {c : Nat} (h : MapIs P w M K Key.cells m) (hb : w.heap[M]? = some (.map es c)) (hb' : w'.heap[M']? = some (.map es c)) : MapIs P w' M' K Key.cells m := by
  obtain ⟨l, ⟨es0, c0, h1, h2⟩, h3⟩ := h
  rw [hb] at h1
  simp only [Option.some.injEq, Obj.map.injEq] at h1
  obtain ⟨rfl, rfl⟩ := h1
  exact ⟨l, ⟨es, c, hb', h2⟩, h3⟩
set_option maxRecDepth 100000 in
theorem mapsClone_calls (M : Nat) (m : Key → Option Value) (w : World) (F : Nat → Prop) (h : (MapA true Try.prog 28 Key.cells M m).at_ w F) :
    Calls Try.prog 47 #[.map (some M)] w fun e w' => ∃ M', e = .returned (.map (some M')) ∧ St (fun _ => False) w w' [MapA false Try.prog 28 Key.cells M' m] := by
  obtain ⟨l, ⟨es, c, hb, _⟩, _⟩ := h.1
  have hq := fun w => eql_map_nil (P := Try.prog) w 82 _ _ (some M) Try.underlying82
  have HM := Lib.hid h.1
  clear h
  go_enter Try.func47, Try.ntmps47
  go_wp2
  rw [run_callFunc_extern Try.func57 (by kernel_rfl) (by kernel_rfl) (by kernel_rfl) (e := Extern.MapsClone.clone) (by kernel_rfl), run_mapsclone w 82 hb]
  simp only [Result.andThen]
  rw [Oper.upon_value]
  go_wp2
  rw [run_assert_map _ 82 _ _ _ _ Try.underlying82]
  simp only [Result.andThen]
  rw [Oper.upon_value]
  go_wp2
  go_ret
  refine ⟨_, rfl, (St.init _ w).grow (F := fun x => x = w.heap.size) (keep_alloc w _) ⟨mapIs_copy HM.out hb (heap_alloc_new w _), fun _ => Iff.rfl⟩ (fun _ e => Nat.le_of_eq e.symm)⟩
set_option maxRecDepth 100000 in
theorem hcopy_calls (B : Nat) (s : List Row) (w : World) (F : Nat → Prop) (h : (heapA B s).at_ w F) (hmax : s.length ≤ 4294967296) :
    Calls Try.prog 23 #[.pointer (some ⟨B, 0, none⟩)] w fun e w' => ∃ B', e = .returned (.pointer (some ⟨B', 0, none⟩)) ∧ St (fun _ => False) w w' [heapA B' s] := by
  obtain ⟨M, v, rows, ho, hp, hs, S⟩ := heapR_st h
  obtain ⟨ad, cp, rfl, _⟩ := (S.sl 1 rfl).elim fun _ h => h.form
  have hlen : rows.length ≤ 4294967296 := by rw [hp.length_eq]; exact hmax
  clear h
  go_enter Try.func23, Try.ntmps23
  go_wp2_with first
    | ((with_reducible refine tot_done ?ht ?_); (case ht => kernel_rfl))
    | ((with_reducible apply wps_text S); (case hm => kernel_rfl); (case hB => decide +kernel); clear S; intro wz S)
    | ((with_reducible apply wps_boxa S); (case hx => rfl); clear S; intro bz wz S)
    | ((with_reducible apply wps_box1 (v := .int _ _) S); (case hx => rfl); (case h1 => rfl); clear S; intro bz wz S)
    | ((with_reducible apply wps_box1 (v := .bool _) S); (case hx => rfl); (case h1 => rfl); clear S; intro bz wz S)
    | ((with_reducible apply wps_box1 (v := .slice _ _ _) S); (case hx => rfl); (case h1 => rfl); clear S; intro bz wz S)
    | ((with_reducible apply wps_box1 (v := .pointer _) S); (case hx => rfl); (case h1 => rfl); clear S; intro bz wz S)
    | ((with_reducible apply wps_box1 (v := .map _) S); (case hx => rfl); (case h1 => rfl); clear S; intro bz wz S)
    | ((with_reducible apply wps_box1 (v := .string _) S); (case hx => rfl); (case h1 => rfl); clear S; intro bz wz S)
    | ((with_reducible apply wps_box1 (v := .func _ _ _) S); (case hx => rfl); (case h1 => rfl); clear S; intro bz wz S)
    | ((with_reducible apply wps_load S 0); (case hx => rfl); (case hi => rfl); (case hT => decide +kernel); (case hu => rfl))
    | ((with_reducible apply wps_load S 1); (case hx => rfl); (case hi => rfl); (case hT => decide +kernel); (case hu => rfl))
    | ((with_reducible apply wps_load S 2); (case hx => rfl); (case hi => rfl); (case hT => decide +kernel); (case hu => rfl))
    | ((with_reducible apply wps_load S 3); (case hx => rfl); (case hi => rfl); (case hT => decide +kernel); (case hu => rfl))
  (refine wp_region_w (soft := [0, 1, 2, 3, 5, 6, 7, 8]) S ?hm ?hB ?_); (case hm => kernel_rfl); (case hB => decide +kernel); clear S
  iterate 8
    (with_reducible apply softs_cons)
    (case hw =>
      (with_reducible apply soft_of); (case hi => rfl)
      intro T wz S
      simp only [List.cons_append, List.nil_append] at S
      go_wp2_with first
        | (go_at_call 46; refine Calls.mono (clone_Row _ _ (S.get (i := 1) rfl).choose_spec hlen) ?_; rintro e wz ⟨ad1, c1, rfl, _, T⟩; replace S := S.join T rfl; clear T; simp only [List.cons_append, List.nil_append] at S)
        | (go_at_call 47; refine Calls.mono (mapsClone_calls _ _ _ _ (S.get (i := 0) rfl).choose_spec) ?_; rintro e wz ⟨M1, rfl, T⟩; replace S := S.join T rfl; clear T; simp only [List.cons_append, List.nil_append] at S)
        | ((with_reducible refine tot_done ?ht ?_); (case ht => kernel_rfl))
        | ((with_reducible apply wps_boxa S); (case hx => rfl); clear S; intro bz wz S)
        | ((with_reducible apply wps_box1 (v := .int _ _) S); (case hx => rfl); (case h1 => rfl); clear S; intro bz wz S)
        | ((with_reducible apply wps_box1 (v := .bool _) S); (case hx => rfl); (case h1 => rfl); clear S; intro bz wz S)
        | ((with_reducible apply wps_box1 (v := .slice _ _ _) S); (case hx => rfl); (case h1 => rfl); clear S; intro bz wz S)
        | ((with_reducible apply wps_box1 (v := .pointer _) S); (case hx => rfl); (case h1 => rfl); clear S; intro bz wz S)
        | ((with_reducible apply wps_box1 (v := .map _) S); (case hx => rfl); (case h1 => rfl); clear S; intro bz wz S)
        | ((with_reducible apply wps_box1 (v := .string _) S); (case hx => rfl); (case h1 => rfl); clear S; intro bz wz S)
        | ((with_reducible apply wps_box1 (v := .func _ _ _) S); (case hx => rfl); (case h1 => rfl); clear S; intro bz wz S)
        | ((with_reducible apply wps_load S 0); (case hx => rfl); (case hi => rfl); (case hT => decide +kernel); (case hu => rfl))
        | ((with_reducible apply wps_load S 1); (case hx => rfl); (case hi => rfl); (case hT => decide +kernel); (case hu => rfl))
        | ((with_reducible apply wps_load S 2); (case hx => rfl); (case hi => rfl); (case hT => decide +kernel); (case hu => rfl))
        | ((with_reducible apply wps_load S 3); (case hx => rfl); (case hi => rfl); (case hT => decide +kernel); (case hu => rfl))
      exact ⟨rfl, S⟩)
    (case hs => exact ⟨_, rfl, by kernel_rfl⟩)
  refine softs_nil ?_
  (with_reducible apply W_hard1 (i := 4)); (case hn => rfl); (case hr => decide +kernel)
  intro wz S
  (with_reducible apply hard_of); (case hi => rfl)
  simp only [List.cons_append, List.nil_append] at S
  go_wp2_with first
    | (go_at_call 46; refine Calls.mono (clone_Row _ _ (S.get (i := 1) rfl).choose_spec hlen) ?_; rintro e wz ⟨ad1, c1, rfl, _, T⟩; replace S := S.join T rfl; clear T; simp only [List.cons_append, List.nil_append] at S)
    | (go_at_call 47; refine Calls.mono (mapsClone_calls _ _ _ _ (S.get (i := 0) rfl).choose_spec) ?_; rintro e wz ⟨M1, rfl, T⟩; replace S := S.join T rfl; clear T; simp only [List.cons_append, List.nil_append] at S)
    | ((with_reducible refine tot_done ?ht ?_); (case ht => kernel_rfl))
    | ((with_reducible apply wps_boxa S); (case hx => rfl); clear S; intro bz wz S)
    | ((with_reducible apply wps_box1 (v := .int _ _) S); (case hx => rfl); (case h1 => rfl); clear S; intro bz wz S)
    | ((with_reducible apply wps_box1 (v := .bool _) S); (case hx => rfl); (case h1 => rfl); clear S; intro bz wz S)
    | ((with_reducible apply wps_box1 (v := .slice _ _ _) S); (case hx => rfl); (case h1 => rfl); clear S; intro bz wz S)
    | ((with_reducible apply wps_box1 (v := .pointer _) S); (case hx => rfl); (case h1 => rfl); clear S; intro bz wz S)
    | ((with_reducible apply wps_box1 (v := .map _) S); (case hx => rfl); (case h1 => rfl); clear S; intro bz wz S)
    | ((with_reducible apply wps_box1 (v := .string _) S); (case hx => rfl); (case h1 => rfl); clear S; intro bz wz S)
    | ((with_reducible apply wps_box1 (v := .func _ _ _) S); (case hx => rfl); (case h1 => rfl); clear S; intro bz wz S)
    | ((with_reducible apply wps_load S 0); (case hx => rfl); (case hi => rfl); (case hT => decide +kernel); (case hu => rfl))
    | ((with_reducible apply wps_load S 1); (case hx => rfl); (case hi => rfl); (case hT => decide +kernel); (case hu => rfl))
    | ((with_reducible apply wps_load S 2); (case hx => rfl); (case hi => rfl); (case hT => decide +kernel); (case hu => rfl))
    | ((with_reducible apply wps_load S 3); (case hx => rfl); (case hi => rfl); (case hT => decide +kernel); (case hu => rfl))
  refine ⟨_, S.pick [1, 2, 3, 0] rfl, ?_⟩
  clear S
  (with_reducible apply W_hard1 (i := 9)); (case hn => rfl); (case hr => decide +kernel)
  intro wz S
  (with_reducible apply hard_of); (case hi => rfl)
  simp only [List.cons_append, List.nil_append] at S
  go_wp2_with first
    | (go_at_call 46; refine Calls.mono (clone_Row _ _ (S.get (i := 1) rfl).choose_spec hlen) ?_; rintro e wz ⟨ad1, c1, rfl, _, T⟩; replace S := S.join T rfl; clear T; simp only [List.cons_append, List.nil_append] at S)
    | (go_at_call 47; refine Calls.mono (mapsClone_calls _ _ _ _ (S.get (i := 0) rfl).choose_spec) ?_; rintro e wz ⟨M1, rfl, T⟩; replace S := S.join T rfl; clear T; simp only [List.cons_append, List.nil_append] at S)
    | ((with_reducible refine tot_done ?ht ?_); (case ht => kernel_rfl))
    | ((with_reducible apply wps_boxa S); (case hx => rfl); clear S; intro bz wz S)
    | ((with_reducible apply wps_box1 (v := .int _ _) S); (case hx => rfl); (case h1 => rfl); clear S; intro bz wz S)
    | ((with_reducible apply wps_box1 (v := .bool _) S); (case hx => rfl); (case h1 => rfl); clear S; intro bz wz S)
    | ((with_reducible apply wps_box1 (v := .slice _ _ _) S); (case hx => rfl); (case h1 => rfl); clear S; intro bz wz S)
    | ((with_reducible apply wps_box1 (v := .pointer _) S); (case hx => rfl); (case h1 => rfl); clear S; intro bz wz S)
    | ((with_reducible apply wps_box1 (v := .map _) S); (case hx => rfl); (case h1 => rfl); clear S; intro bz wz S)
    | ((with_reducible apply wps_box1 (v := .string _) S); (case hx => rfl); (case h1 => rfl); clear S; intro bz wz S)
    | ((with_reducible apply wps_box1 (v := .func _ _ _) S); (case hx => rfl); (case h1 => rfl); clear S; intro bz wz S)
    | ((with_reducible apply wps_load S 0); (case hx => rfl); (case hi => rfl); (case hT => decide +kernel); (case hu => rfl))
    | ((with_reducible apply wps_load S 1); (case hx => rfl); (case hi => rfl); (case hT => decide +kernel); (case hu => rfl))
    | ((with_reducible apply wps_load S 2); (case hx => rfl); (case hi => rfl); (case hT => decide +kernel); (case hu => rfl))
    | ((with_reducible apply wps_load S 3); (case hx => rfl); (case hi => rfl); (case hT => decide +kernel); (case hu => rfl))
  refine ⟨_, S.pick [1, 2, 3, 4, 0] rfl, ?_⟩
  clear S
  (refine W_mid (f := 2) (soft := [10]) rfl ?hB ?_); (case hB => decide +kernel)
  iterate 1
    (with_reducible apply softs_cons)
    (case hw =>
      (with_reducible apply soft_of); (case hi => rfl)
      intro T wz S
      simp only [List.cons_append, List.nil_append] at S
      go_wp2_with first
        | (go_at_call 46; refine Calls.mono (clone_Row _ _ (S.get (i := 1) rfl).choose_spec hlen) ?_; rintro e wz ⟨ad1, c1, rfl, _, T⟩; replace S := S.join T rfl; clear T; simp only [List.cons_append, List.nil_append] at S)
        | (go_at_call 47; refine Calls.mono (mapsClone_calls _ _ _ _ (S.get (i := 0) rfl).choose_spec) ?_; rintro e wz ⟨M1, rfl, T⟩; replace S := S.join T rfl; clear T; simp only [List.cons_append, List.nil_append] at S)
        | ((with_reducible refine tot_done ?ht ?_); (case ht => kernel_rfl))
        | ((with_reducible apply wps_boxa S); (case hx => rfl); clear S; intro bz wz S)
        | ((with_reducible apply wps_box1 (v := .int _ _) S); (case hx => rfl); (case h1 => rfl); clear S; intro bz wz S)
        | ((with_reducible apply wps_box1 (v := .bool _) S); (case hx => rfl); (case h1 => rfl); clear S; intro bz wz S)
        | ((with_reducible apply wps_box1 (v := .slice _ _ _) S); (case hx => rfl); (case h1 => rfl); clear S; intro bz wz S)
        | ((with_reducible apply wps_box1 (v := .pointer _) S); (case hx => rfl); (case h1 => rfl); clear S; intro bz wz S)
        | ((with_reducible apply wps_box1 (v := .map _) S); (case hx => rfl); (case h1 => rfl); clear S; intro bz wz S)
        | ((with_reducible apply wps_box1 (v := .string _) S); (case hx => rfl); (case h1 => rfl); clear S; intro bz wz S)
        | ((with_reducible apply wps_box1 (v := .func _ _ _) S); (case hx => rfl); (case h1 => rfl); clear S; intro bz wz S)
        | ((with_reducible apply wps_load S 0); (case hx => rfl); (case hi => rfl); (case hT => decide +kernel); (case hu => rfl))
        | ((with_reducible apply wps_load S 1); (case hx => rfl); (case hi => rfl); (case hT => decide +kernel); (case hu => rfl))
        | ((with_reducible apply wps_load S 2); (case hx => rfl); (case hi => rfl); (case hT => decide +kernel); (case hu => rfl))
        | ((with_reducible apply wps_load S 3); (case hx => rfl); (case hi => rfl); (case hT => decide +kernel); (case hu => rfl))
      exact ⟨rfl, S⟩)
    (case hs => exact ⟨_, rfl, by kernel_rfl⟩)
  refine softs_nil ?_
  (with_reducible apply W_hard1 (i := 11)); (case hn => rfl); (case hr => decide +kernel)
  intro wz S
  (with_reducible apply hard_of); (case hi => rfl)
  simp only [List.cons_append, List.nil_append] at S
  go_wp2_with first
    | (go_at_call 46; refine Calls.mono (clone_Row _ _ (S.get (i := 1) rfl).choose_spec hlen) ?_; rintro e wz ⟨ad1, c1, rfl, _, T⟩; replace S := S.join T rfl; clear T; simp only [List.cons_append, List.nil_append] at S)
    | (go_at_call 47; refine Calls.mono (mapsClone_calls _ _ _ _ (S.get (i := 0) rfl).choose_spec) ?_; rintro e wz ⟨M1, rfl, T⟩; replace S := S.join T rfl; clear T; simp only [List.cons_append, List.nil_append] at S)
    | ((with_reducible refine tot_done ?ht ?_); (case ht => kernel_rfl))
    | ((with_reducible apply wps_boxa S); (case hx => rfl); clear S; intro bz wz S)
    | ((with_reducible apply wps_box1 (v := .int _ _) S); (case hx => rfl); (case h1 => rfl); clear S; intro bz wz S)
    | ((with_reducible apply wps_box1 (v := .bool _) S); (case hx => rfl); (case h1 => rfl); clear S; intro bz wz S)
    | ((with_reducible apply wps_box1 (v := .slice _ _ _) S); (case hx => rfl); (case h1 => rfl); clear S; intro bz wz S)
    | ((with_reducible apply wps_box1 (v := .pointer _) S); (case hx => rfl); (case h1 => rfl); clear S; intro bz wz S)
    | ((with_reducible apply wps_box1 (v := .map _) S); (case hx => rfl); (case h1 => rfl); clear S; intro bz wz S)
    | ((with_reducible apply wps_box1 (v := .string _) S); (case hx => rfl); (case h1 => rfl); clear S; intro bz wz S)
    | ((with_reducible apply wps_box1 (v := .func _ _ _) S); (case hx => rfl); (case h1 => rfl); clear S; intro bz wz S)
    | ((with_reducible apply wps_load S 0); (case hx => rfl); (case hi => rfl); (case hT => decide +kernel); (case hu => rfl))
    | ((with_reducible apply wps_load S 1); (case hx => rfl); (case hi => rfl); (case hT => decide +kernel); (case hu => rfl))
    | ((with_reducible apply wps_load S 2); (case hx => rfl); (case hi => rfl); (case hT => decide +kernel); (case hu => rfl))
    | ((with_reducible apply wps_load S 3); (case hx => rfl); (case hi => rfl); (case hT => decide +kernel); (case hu => rfl))
  refine ⟨_, S.pick [1, 2, 3, 4, 5, 0] rfl, ?_⟩
  clear S
  (refine W_mid (f := 0) (soft := [12]) rfl ?hB ?_); (case hB => decide +kernel)
  iterate 1
    (with_reducible apply softs_cons)
    (case hw =>
      (with_reducible apply soft_of); (case hi => rfl)
      intro T wz S
      simp only [List.cons_append, List.nil_append] at S
      go_wp2_with first
        | (go_at_call 46; refine Calls.mono (clone_Row _ _ (S.get (i := 1) rfl).choose_spec hlen) ?_; rintro e wz ⟨ad1, c1, rfl, _, T⟩; replace S := S.join T rfl; clear T; simp only [List.cons_append, List.nil_append] at S)
        | (go_at_call 47; refine Calls.mono (mapsClone_calls _ _ _ _ (S.get (i := 0) rfl).choose_spec) ?_; rintro e wz ⟨M1, rfl, T⟩; replace S := S.join T rfl; clear T; simp only [List.cons_append, List.nil_append] at S)
        | ((with_reducible refine tot_done ?ht ?_); (case ht => kernel_rfl))
        | ((with_reducible apply wps_boxa S); (case hx => rfl); clear S; intro bz wz S)
        | ((with_reducible apply wps_box1 (v := .int _ _) S); (case hx => rfl); (case h1 => rfl); clear S; intro bz wz S)
        | ((with_reducible apply wps_box1 (v := .bool _) S); (case hx => rfl); (case h1 => rfl); clear S; intro bz wz S)
        | ((with_reducible apply wps_box1 (v := .slice _ _ _) S); (case hx => rfl); (case h1 => rfl); clear S; intro bz wz S)
        | ((with_reducible apply wps_box1 (v := .pointer _) S); (case hx => rfl); (case h1 => rfl); clear S; intro bz wz S)
        | ((with_reducible apply wps_box1 (v := .map _) S); (case hx => rfl); (case h1 => rfl); clear S; intro bz wz S)
        | ((with_reducible apply wps_box1 (v := .string _) S); (case hx => rfl); (case h1 => rfl); clear S; intro bz wz S)
        | ((with_reducible apply wps_box1 (v := .func _ _ _) S); (case hx => rfl); (case h1 => rfl); clear S; intro bz wz S)
        | ((with_reducible apply wps_load S 0); (case hx => rfl); (case hi => rfl); (case hT => decide +kernel); (case hu => rfl))
        | ((with_reducible apply wps_load S 1); (case hx => rfl); (case hi => rfl); (case hT => decide +kernel); (case hu => rfl))
        | ((with_reducible apply wps_load S 2); (case hx => rfl); (case hi => rfl); (case hT => decide +kernel); (case hu => rfl))
        | ((with_reducible apply wps_load S 3); (case hx => rfl); (case hi => rfl); (case hT => decide +kernel); (case hu => rfl))
      exact ⟨rfl, S⟩)
    (case hs => exact ⟨_, rfl, by kernel_rfl⟩)
  refine softs_nil ?_
  (with_reducible apply W_done); (case hn => rfl); (case hr => decide +kernel)
  intro wz S
  repeat (first | simp only at S | simp only [pick] at S | simp only [nth] at S | simp only [List.set_cons_succ] at S | simp only [List.set_cons_zero] at S | simp only [List.setIfInBounds_toArray] at S | simp only [setAll] at S | simp only [List.cons_append] at S | simp only [List.nil_append] at S | simp only [List.append_nil] at S)
  all_goals
    go_wp2_with first
      | ((with_reducible refine tot_done ?ht ?_); (case ht => kernel_rfl))
      | ((with_reducible apply wps_text S); (case hm => kernel_rfl); (case hB => decide +kernel); clear S; intro wz S)
      | ((with_reducible apply wps_boxa S); (case hx => rfl); clear S; intro bz wz S)
      | ((with_reducible apply wps_box1 (v := .int _ _) S); (case hx => rfl); (case h1 => rfl); clear S; intro bz wz S)
      | ((with_reducible apply wps_box1 (v := .bool _) S); (case hx => rfl); (case h1 => rfl); clear S; intro bz wz S)
      | ((with_reducible apply wps_box1 (v := .slice _ _ _) S); (case hx => rfl); (case h1 => rfl); clear S; intro bz wz S)
      | ((with_reducible apply wps_box1 (v := .pointer _) S); (case hx => rfl); (case h1 => rfl); clear S; intro bz wz S)
      | ((with_reducible apply wps_box1 (v := .map _) S); (case hx => rfl); (case h1 => rfl); clear S; intro bz wz S)
      | ((with_reducible apply wps_box1 (v := .string _) S); (case hx => rfl); (case h1 => rfl); clear S; intro bz wz S)
      | ((with_reducible apply wps_box1 (v := .func _ _ _) S); (case hx => rfl); (case h1 => rfl); clear S; intro bz wz S)
      | ((with_reducible apply wps_load S 0); (case hx => rfl); (case hi => rfl); (case hT => decide +kernel); (case hu => rfl))
      | ((with_reducible apply wps_load S 1); (case hx => rfl); (case hi => rfl); (case hT => decide +kernel); (case hu => rfl))
      | ((with_reducible apply wps_load S 2); (case hx => rfl); (case hi => rfl); (case hT => decide +kernel); (case hu => rfl))
      | ((with_reducible apply wps_load S 3); (case hx => rfl); (case hi => rfl); (case hT => decide +kernel); (case hu => rfl))
    go_ret
    refine ⟨_, rfl, ?_⟩
    exact heap_close (S.pick [4, 3, 5] rfl) ho hp hs
end Go.Proofs.Ytcbdacmdmaoegaa

import Derived.Test.YthegonbbimmhhaaGreatDoorR06
import Derived.Test.YthegonbbimmhhaaGreatDoorR08
import Derived.Test.YthegonbbimmhhaaGreatDoorR04
import Derived.Test.YthegonbbimmhhaaGreatDoorR05
import Derived.Test.YthegonbbimmhhaaGreatDoorR13
import Derived.Laws.CopyRow
/- Operations of one value in the midst of a region that draws its order. Over any program. -/
namespace Go.Proofs.YthegonbbimmhhaaGreatDoor.Mem
open Go Go.RowKit Reg
section
variable {P : Program} {ops : Array Oper} {Q : Exit → Act → World → Prop} {G : Nat → Prop} {w0 : World} {L : List Asn}
def closedB (ops : Array Oper) (listed : Array Bool) : Bool :=
  (List.range ops.size).all fun j => !listed.getD j false || ((ops[j]?).map (·.after.all fun e => !Region.binds .any e || listed.getD e.on false)).getD true
theorem closed_of {listed : Array Bool} (h : closedB ops listed = true) : Closed .any ops listed := fun j oj hj hl e he hb => by
  have h1 := List.all_eq_true.1 h j (List.mem_range.2 (Array.getElem?_eq_some_iff.1 hj).1)
  rw [hj] at h1
  simp only [hl, Option.map_some, Option.getD_some, Bool.not_true, Bool.false_or, Array.all_eq_true'] at h1
  have := h1 e he
  rw [hb] at this
  simpa using this
theorem W_mid {n f : Nat} {soft : List Nat} {T : List Asn} {listed : Array Bool} {a : Act} (hn : n = f + soft.length) (hB : (ordB ops && closedB ops listed && readyAll ops soft listed) = true)
    (h : Softs P ops Q G w0 L (fun A => W P ops Q G w0 L f T (after soft listed) A) soft a) : W P ops Q G w0 L n T listed a := by
  simp only [Bool.and_eq_true] at hB
  rw [hn]
  exact W_softs hB.1.1 soft f T listed a (closed_of hB.1.2) hB.2 h
end
end Go.Proofs.YthegonbbimmhhaaGreatDoor.Mem
/- The walks of a heap's Get, First, Pull, Pop. -/
namespace Go.Proofs.YthegonbbimmhhaaGreatDoor
open Go.RowKit Reg Mem

theorem heapR_st {B : Nat} {s : List Row} {w : World} {F : Nat → Prop} (h : (heapA B s).at_ w F) :
    ∃ M v rows, Ordered rows ∧ rows.Perm s ∧ HSorted s ∧ St (fun _ => False) w w [MapA true Tryz.prog 50 Key.cells M (posMap rows), Sl true Row.cells 11 v rows, Blk true B #[v, .map (some M)] 139] := by
  obtain ⟨⟨M, v, rows⟩, F1, F2, ⟨⟨h1, h2, h3⟩, _⟩, h4, _, _⟩ := h
  exact ⟨M, v, rows, h1, h2, h3, rawR_st h4⟩
def foundVal (s : List Row) (k : Key) : Value :=
  match s.find? (fun x => x.key = k) with
  | some r => .tuple #[.agg #[.int .i64 r.v.key.at_, .int .i64 r.v.key.src, .int .i64 r.v.key.sent, .int .i64 r.v.key.no, .int .i64 r.v.dst, .int .i64 r.v.kind, .int .i64 r.v.data], .int .i64 0]
  | none => .tuple #[.agg #[.int .i64 0, .int .i64 0, .int .i64 0, .int .i64 0, .int .i64 0, .int .i64 0, .int .i64 0], .int .i64 14]
def firstVal : List Row → Value
  | [] => .tuple #[.agg #[.int .i64 0, .int .i64 0, .int .i64 0, .int .i64 0], .agg #[.int .i64 0, .int .i64 0, .int .i64 0, .int .i64 0, .int .i64 0, .int .i64 0, .int .i64 0], .int .i64 14]
  | r :: _ => .tuple #[.agg #[.int .i64 r.key.at_, .int .i64 r.key.src, .int .i64 r.key.sent, .int .i64 r.key.no], .agg #[.int .i64 r.v.key.at_, .int .i64 r.v.key.src, .int .i64 r.v.key.sent, .int .i64 r.v.key.no, .int .i64 r.v.dst, .int .i64 r.v.kind, .int .i64 r.v.data], .int .i64 0]
set_option maxRecDepth 100000 in
theorem hfirst_calls (B : Nat) (s : List Row) (w : World) (F : Nat → Prop) (h : (heapA B s).at_ w F) :
    Calls Tryz.prog 55 #[.pointer (some ⟨B, 0, none⟩)] w fun e w' => e = .returned (firstVal s) ∧ Below w.heap.size w w' := by
  obtain ⟨M, v, rows, ho, hp, hs, S⟩ := heapR_st h
  obtain ⟨ad, cp, rfl, _⟩ := (S.sl 1 rfl).elim fun _ h => h.form
  clear h
  cases rows with
  | nil =>
    obtain rfl : s = [] := hp.symm.eq_nil
    go_enter Tryz.func55, Tryz.ntmps55
    go_wp2_with first | ((with_reducible apply wps_alloca (E := 50) S); (case hz => exact Tryz.zeroValue50); clear S; intro bz wz S) | ((with_reducible apply wps_alloca (E := 52) S); (case hz => exact Tryz.zeroValue52); clear S; intro bz wz S) | ((with_reducible apply wps_load S 4); (case hx | hi | hu => rfl); (case hT => decide +kernel))
    replace S := S.pick [2, 3, 4, 1, 0] rfl
    simp only [pick, nth] at S
    (refine wp_region_wt (soft := []) (L := [_, _, _]) (T := [_, _]) S ?hm ?hB ?_); (case hm => kernel_rfl); (case hB => decide +kernel); clear S
    iterate 0
      (with_reducible apply softs_cons)
      (case hw =>
        (with_reducible apply soft_of); (case hi => rfl)
        intro T wz S
        simp only [List.cons_append, List.nil_append] at S
        go_wp2_with first | ((with_reducible apply wps_loada (T := 52) (k := 7) S 5); (case hx | hi => rfl); (case hk => exact Nat.le_of_ble_eq_true rfl); (case hT => decide +kernel))
        exact ⟨rfl, S⟩)
      (case hs => exact ⟨_, rfl, by kernel_rfl⟩)
    refine softs_nil ?_
    (with_reducible apply W_hard2 (i := 0) (i' := 1)); (case hn => rfl); (case hr => decide +kernel)
    focus
      intro wz S
      (with_reducible apply hard_of); (case hi => rfl)
      simp only [List.cons_append, List.nil_append] at S
      go_wp2_with first | ((with_reducible refine tot_done ?ht ?_); (case ht => kernel_rfl)) | ((with_reducible apply wps_loada (T := 50) (k := 4) S 3); (case hx | hi => rfl); (case hk => exact Nat.le_of_ble_eq_true rfl); (case hT => decide +kernel))
      refine ⟨_, S, ?_⟩
      clear S
      (with_reducible apply W_hard2 (i := 1) (i' := 2)); (case hn => rfl); (case hr => decide +kernel)
      focus
        intro wz S
        (with_reducible apply hard_of); (case hi => rfl)
        simp only [List.cons_append, List.nil_append] at S
        go_wp2_with first | ((with_reducible refine tot_done ?ht ?_); (case ht => kernel_rfl)) | ((with_reducible apply wps_loada (T := 52) (k := 7) S 4); (case hx | hi => rfl); (case hk => exact Nat.le_of_ble_eq_true rfl); (case hT => decide +kernel))
        refine ⟨_, S, ?_⟩
        clear S
        (with_reducible apply W_hard1 (i := 2)); (case hn => rfl); (case hr => decide +kernel)
        intro wz S
        (with_reducible apply hard_of); (case hi => rfl)
        simp only [List.cons_append, List.nil_append] at S
        go_wp2_with first | ((with_reducible apply wps_storea (T := 50) S 3 (vs := [.int .i64 0, .int .i64 0, .int .i64 0, .int .i64 0]) (m := 4)); (case hx | hy | hi | hm | h1 => rfl); (case hn => exact Nat.le_of_ble_eq_true rfl); (case hT => decide +kernel); clear S; intro wz S; simp only [List.set_cons_zero, List.set_cons_succ, setAll, List.setIfInBounds_toArray] at S) | ((with_reducible refine tot_done ?ht ?_); (case ht => kernel_rfl))
        refine ⟨_, S, ?_⟩
        clear S
        (with_reducible apply W_hard1 (i := 3)); (case hn => rfl); (case hr => decide +kernel)
        intro wz S
        (with_reducible apply hard_of); (case hi => rfl)
        simp only [List.cons_append, List.nil_append] at S
        go_wp2_with first | ((with_reducible apply wps_storea (T := 52) S 4 (vs := [.int .i64 0, .int .i64 0, .int .i64 0, .int .i64 0, .int .i64 0, .int .i64 0, .int .i64 0]) (m := 7)); (case hx | hy | hi | hm | h1 => rfl); (case hn => exact Nat.le_of_ble_eq_true rfl); (case hT => decide +kernel); clear S; intro wz S; simp only [List.set_cons_zero, List.set_cons_succ, setAll, List.setIfInBounds_toArray] at S) | ((with_reducible refine tot_done ?ht ?_); (case ht => kernel_rfl))
        refine ⟨_, S, ?_⟩
        clear S
        (refine W_mid (f := 0) (soft := [4]) rfl ?hB ?_); (case hB => decide +kernel)
        iterate 1
          (with_reducible apply softs_cons)
          (case hw =>
            (with_reducible apply soft_of); (case hi => rfl)
            intro T wz S
            simp only [List.cons_append, List.nil_append] at S
            go_wp2_with first | ((with_reducible refine tot_done ?ht ?_); (case ht => kernel_rfl))
            exact ⟨rfl, S⟩)
          (case hs => exact ⟨_, rfl, by kernel_rfl⟩)
        refine softs_nil ?_
        (with_reducible apply W_done); (case hn => rfl); (case hr => decide +kernel)
        intro wz S
        repeat (first | simp only at S | simp only [pick] at S | simp only [nth] at S | simp only [List.set_cons_succ] at S | simp only [List.set_cons_zero] at S | simp only [List.setIfInBounds_toArray] at S | simp only [setAll] at S | simp only [List.cons_append] at S | simp only [List.nil_append] at S | simp only [List.append_nil] at S)
      rotate_left 1
      focus
        intro wz S
        (with_reducible apply hard_of); (case hi => rfl)
        simp only [List.cons_append, List.nil_append] at S
        go_wp2_with first | ((with_reducible apply wps_storea (T := 50) S 3 (vs := [.int .i64 0, .int .i64 0, .int .i64 0, .int .i64 0]) (m := 4)); (case hx | hy | hi | hm | h1 => rfl); (case hn => exact Nat.le_of_ble_eq_true rfl); (case hT => decide +kernel); clear S; intro wz S; simp only [List.set_cons_zero, List.set_cons_succ, setAll, List.setIfInBounds_toArray] at S) | ((with_reducible refine tot_done ?ht ?_); (case ht => kernel_rfl))
        refine ⟨_, S, ?_⟩
        clear S
        (with_reducible apply W_hard1 (i := 1)); (case hn => rfl); (case hr => decide +kernel)
        intro wz S
        (with_reducible apply hard_of); (case hi => rfl)
        simp only [List.cons_append, List.nil_append] at S
        go_wp2_with first | ((with_reducible refine tot_done ?ht ?_); (case ht => kernel_rfl)) | ((with_reducible apply wps_loada (T := 52) (k := 7) S 4); (case hx | hi => rfl); (case hk => exact Nat.le_of_ble_eq_true rfl); (case hT => decide +kernel))
        refine ⟨_, S, ?_⟩
        clear S
        (with_reducible apply W_hard1 (i := 3)); (case hn => rfl); (case hr => decide +kernel)
        intro wz S
        (with_reducible apply hard_of); (case hi => rfl)
        simp only [List.cons_append, List.nil_append] at S
        go_wp2_with first | ((with_reducible apply wps_storea (T := 52) S 4 (vs := [.int .i64 0, .int .i64 0, .int .i64 0, .int .i64 0, .int .i64 0, .int .i64 0, .int .i64 0]) (m := 7)); (case hx | hy | hi | hm | h1 => rfl); (case hn => exact Nat.le_of_ble_eq_true rfl); (case hT => decide +kernel); clear S; intro wz S; simp only [List.set_cons_zero, List.set_cons_succ, setAll, List.setIfInBounds_toArray] at S) | ((with_reducible refine tot_done ?ht ?_); (case ht => kernel_rfl))
        refine ⟨_, S, ?_⟩
        clear S
        (refine W_mid (f := 0) (soft := [4]) rfl ?hB ?_); (case hB => decide +kernel)
        iterate 1
          (with_reducible apply softs_cons)
          (case hw =>
            (with_reducible apply soft_of); (case hi => rfl)
            intro T wz S
            simp only [List.cons_append, List.nil_append] at S
            go_wp2_with first | ((with_reducible refine tot_done ?ht ?_); (case ht => kernel_rfl))
            exact ⟨rfl, S⟩)
          (case hs => exact ⟨_, rfl, by kernel_rfl⟩)
        refine softs_nil ?_
        (with_reducible apply W_done); (case hn => rfl); (case hr => decide +kernel)
        intro wz S
        repeat (first | simp only at S | simp only [pick] at S | simp only [nth] at S | simp only [List.set_cons_succ] at S | simp only [List.set_cons_zero] at S | simp only [List.setIfInBounds_toArray] at S | simp only [setAll] at S | simp only [List.cons_append] at S | simp only [List.nil_append] at S | simp only [List.append_nil] at S)
    rotate_left 2
    focus
      intro wz S
      (with_reducible apply hard_of); (case hi => rfl)
      simp only [List.cons_append, List.nil_append] at S
      go_wp2_with first | ((with_reducible refine tot_done ?ht ?_); (case ht => kernel_rfl)) | ((with_reducible apply wps_loada (T := 52) (k := 7) S 4); (case hx | hi => rfl); (case hk => exact Nat.le_of_ble_eq_true rfl); (case hT => decide +kernel))
      refine ⟨_, S, ?_⟩
      clear S
      (with_reducible apply W_hard1 (i := 0)); (case hn => rfl); (case hr => decide +kernel)
      intro wz S
      (with_reducible apply hard_of); (case hi => rfl)
      simp only [List.cons_append, List.nil_append] at S
      go_wp2_with first | ((with_reducible refine tot_done ?ht ?_); (case ht => kernel_rfl)) | ((with_reducible apply wps_loada (T := 50) (k := 4) S 3); (case hx | hi => rfl); (case hk => exact Nat.le_of_ble_eq_true rfl); (case hT => decide +kernel))
      refine ⟨_, S, ?_⟩
      clear S
      (with_reducible apply W_hard1 (i := 2)); (case hn => rfl); (case hr => decide +kernel)
      intro wz S
      (with_reducible apply hard_of); (case hi => rfl)
      simp only [List.cons_append, List.nil_append] at S
      go_wp2_with first | ((with_reducible apply wps_storea (T := 50) S 3 (vs := [.int .i64 0, .int .i64 0, .int .i64 0, .int .i64 0]) (m := 4)); (case hx | hy | hi | hm | h1 => rfl); (case hn => exact Nat.le_of_ble_eq_true rfl); (case hT => decide +kernel); clear S; intro wz S; simp only [List.set_cons_zero, List.set_cons_succ, setAll, List.setIfInBounds_toArray] at S) | ((with_reducible refine tot_done ?ht ?_); (case ht => kernel_rfl))
      refine ⟨_, S, ?_⟩
      clear S
      (with_reducible apply W_hard1 (i := 3)); (case hn => rfl); (case hr => decide +kernel)
      intro wz S
      (with_reducible apply hard_of); (case hi => rfl)
      simp only [List.cons_append, List.nil_append] at S
      go_wp2_with first | ((with_reducible apply wps_storea (T := 52) S 4 (vs := [.int .i64 0, .int .i64 0, .int .i64 0, .int .i64 0, .int .i64 0, .int .i64 0, .int .i64 0]) (m := 7)); (case hx | hy | hi | hm | h1 => rfl); (case hn => exact Nat.le_of_ble_eq_true rfl); (case hT => decide +kernel); clear S; intro wz S; simp only [List.set_cons_zero, List.set_cons_succ, setAll, List.setIfInBounds_toArray] at S) | ((with_reducible refine tot_done ?ht ?_); (case ht => kernel_rfl))
      refine ⟨_, S, ?_⟩
      clear S
      (refine W_mid (f := 0) (soft := [4]) rfl ?hB ?_); (case hB => decide +kernel)
      iterate 1
        (with_reducible apply softs_cons)
        (case hw =>
          (with_reducible apply soft_of); (case hi => rfl)
          intro T wz S
          simp only [List.cons_append, List.nil_append] at S
          go_wp2_with first | ((with_reducible refine tot_done ?ht ?_); (case ht => kernel_rfl))
          exact ⟨rfl, S⟩)
        (case hs => exact ⟨_, rfl, by kernel_rfl⟩)
      refine softs_nil ?_
      (with_reducible apply W_done); (case hn => rfl); (case hr => decide +kernel)
      intro wz S
      repeat (first | simp only at S | simp only [pick] at S | simp only [nth] at S | simp only [List.set_cons_succ] at S | simp only [List.set_cons_zero] at S | simp only [List.setIfInBounds_toArray] at S | simp only [setAll] at S | simp only [List.cons_append] at S | simp only [List.nil_append] at S | simp only [List.append_nil] at S)
    all_goals
      go_wp2_with first | ((with_reducible apply wps_loada (T := 52) (k := 7) S 5); (case hx | hi => rfl); (case hk => exact Nat.le_of_ble_eq_true rfl); (case hT => decide +kernel))
      (try simp only [Exit.inBlock, Exit.then]); refine bodyPost_ret (results3 rfl (S.resA 3 rfl rfl (by kernel_rfl)) (S.resA 4 rfl rfl (by kernel_rfl)) (res_tmp rfl)) rfl ?_
      exact ⟨rfl, S.below⟩
  | cons r rows =>
    have hh := head_of ho hp hs (m := r) rfl
    cases s with
    | nil => cases hh
    | cons r' s' =>
      cases hh
      obtain ⟨R, o, rfl⟩ : ∃ R o, ad = some ⟨R, o, none⟩ := (S.sl 1 rfl).elim fun F h => h.head (by simp)
      have Hr := Lib.hid (show (r :: rows)[0]? = some r from rfl)
      clear ho hp hs
      have hl : (0 : Int) < (r :: rows).length := by simp
      have hl2 : (((r :: rows).length : Int) == 0) = false := by simp; omega
      generalize hn : (r :: rows).length = n at hl hl2 S
      go_enter Tryz.func55, Tryz.ntmps55
      go_wp2_with first | ((with_reducible apply wps_alloca (E := 50) S); (case hz => exact Tryz.zeroValue50); clear S; intro bz wz S) | ((with_reducible apply wps_alloca (E := 52) S); (case hz => exact Tryz.zeroValue52); clear S; intro bz wz S) | ((with_reducible apply wps_load S 4); (case hx | hi | hu => rfl); (case hT => decide +kernel))
      replace S := S.pick [2, 3, 4, 1, 0] rfl
      simp only [pick, nth] at S
      (refine wp_region_wt (soft := [0, 1, 2, 3, 4, 5, 6, 7, 8, 9, 10, 11, 12, 13]) (L := [_, _, _]) (T := [_, _]) S ?hm ?hB ?_); (case hm => kernel_rfl); (case hB => decide +kernel); clear S
      iterate 14
        (with_reducible apply softs_cons)
        (case hw =>
          (with_reducible apply soft_of); (case hi => rfl)
          intro T wz S
          simp only [List.cons_append, List.nil_append] at S
          go_wp2_with first | ((with_reducible apply wps_loada_el S 1 (hj := Hr.out) (q := 0) (vs := [.int .i64 r.key.at_, .int .i64 r.key.src, .int .i64 r.key.sent, .int .i64 r.key.no]) (m := 4)); (case hx | hi => rfl); (case hn => omega); (case hm | hv => rfl); (case hT => decide +kernel)) | ((with_reducible apply wps_loada_el S 1 (hj := Hr.out) (q := 4) (vs := [.int .i64 r.v.key.at_, .int .i64 r.v.key.src, .int .i64 r.v.key.sent, .int .i64 r.v.key.no, .int .i64 r.v.dst, .int .i64 r.v.kind, .int .i64 r.v.data]) (m := 7)); (case hx | hi => rfl); (case hn => omega); (case hm | hv => rfl); (case hT => decide +kernel)) | ((with_reducible refine tot_done ?ht ?_); (case ht => kernel_rfl)) | ((with_reducible apply wps_load S 2); (case hx | hi | hu => rfl); (case hT => decide +kernel))
          exact ⟨rfl, S⟩)
        (case hs => exact ⟨_, rfl, by kernel_rfl⟩)
      refine softs_nil ?_
      (with_reducible apply W_hard1 (i := 14)); (case hn => rfl); (case hr => decide +kernel)
      intro wz S
      (with_reducible apply hard_of); (case hi => rfl)
      simp only [List.cons_append, List.nil_append] at S
      go_wp2_with first | ((with_reducible apply wps_storea (T := 50) S 3 (vs := [.int .i64 r.key.at_, .int .i64 r.key.src, .int .i64 r.key.sent, .int .i64 r.key.no]) (m := 4)); (case hx | hy | hi | hm | h1 => rfl); (case hn => exact Nat.le_of_ble_eq_true rfl); (case hT => decide +kernel); clear S; intro wz S; simp only [List.set_cons_zero, List.set_cons_succ, setAll, List.setIfInBounds_toArray] at S) | ((with_reducible refine tot_done ?ht ?_); (case ht => kernel_rfl))
      refine ⟨_, S, ?_⟩
      clear S
      (with_reducible apply W_hard1 (i := 15)); (case hn => rfl); (case hr => decide +kernel)
      intro wz S
      (with_reducible apply hard_of); (case hi => rfl)
      simp only [List.cons_append, List.nil_append] at S
      go_wp2_with first | ((with_reducible apply wps_storea (T := 52) S 4 (vs := [.int .i64 r.v.key.at_, .int .i64 r.v.key.src, .int .i64 r.v.key.sent, .int .i64 r.v.key.no, .int .i64 r.v.dst, .int .i64 r.v.kind, .int .i64 r.v.data]) (m := 7)); (case hx | hy | hi | hm | h1 => rfl); (case hn => exact Nat.le_of_ble_eq_true rfl); (case hT => decide +kernel); clear S; intro wz S; simp only [List.set_cons_zero, List.set_cons_succ, setAll, List.setIfInBounds_toArray] at S) | ((with_reducible refine tot_done ?ht ?_); (case ht => kernel_rfl))
      refine ⟨_, S, ?_⟩
      clear S
      (refine W_mid (f := 0) (soft := [16]) rfl ?hB ?_); (case hB => decide +kernel)
      iterate 1
        (with_reducible apply softs_cons)
        (case hw =>
          (with_reducible apply soft_of); (case hi => rfl)
          intro T wz S
          simp only [List.cons_append, List.nil_append] at S
          go_wp2_with first | ((with_reducible refine tot_done ?ht ?_); (case ht => kernel_rfl))
          exact ⟨rfl, S⟩)
        (case hs => exact ⟨_, rfl, by kernel_rfl⟩)
      refine softs_nil ?_
      (with_reducible apply W_done); (case hn => rfl); (case hr => decide +kernel)
      intro wz S
      repeat (first | simp only at S | simp only [pick] at S | simp only [nth] at S | simp only [List.set_cons_succ] at S | simp only [List.set_cons_zero] at S | simp only [List.setIfInBounds_toArray] at S | simp only [setAll] at S | simp only [List.cons_append] at S | simp only [List.nil_append] at S | simp only [List.append_nil] at S)
      all_goals
        go_wp2_with first | ((with_reducible apply wps_loada (T := 52) (k := 7) S 5); (case hx | hi => rfl); (case hk => exact Nat.le_of_ble_eq_true rfl); (case hT => decide +kernel))
        (try simp only [Exit.inBlock, Exit.then]); refine bodyPost_ret (results3 rfl (S.resA 3 rfl rfl (by kernel_rfl)) (S.resA 4 rfl rfl (by kernel_rfl)) (res_tmp rfl)) rfl ?_
        exact ⟨rfl, S.below⟩
end Go.Proofs.YthegonbbimmhhaaGreatDoor
/- Plain: the machine that runs a handler's program. No program in sight. -/
namespace Go.Proofs.YthegonbbimmhhaaGreatDoor
open Go Go.RowKit Mem

structure Emit where
  dst : Int
  delay : Int
  kind : Int
  data : Int
  deriving DecidableEq
instance : Inhabited Emit := ⟨⟨0, 0, 0, 0⟩⟩
def Emit.cells (x : Emit) : List Value := [.int .i64 x.dst, .int .i64 x.delay, .int .i64 x.kind, .int .i64 x.data]
theorem emcells : ∀ e : Emit, e.cells.length = 4 := fun _ => rfl
theorem emone : ∀ e : Emit, ∀ u ∈ e.cells, u.oneCell' = true := fun _ => by simp [Emit.cells, Value.oneCell']
/-- A handler at work: its numbers (eight), the place, what it has sent. -/
structure Mach where
  cs : List Int
  at_ : Int
  sent : List Emit
def Mach.get (m : Mach) (a : Int) : Int := m.cs[a.toNat]?.getD 0
def Mach.put (m : Mach) (a v : Int) : Mach := { m with cs := m.cs.set a.toNat v }
def reckonE (op b c : Int) : Int :=
  if op = 4 then wrap64 (b + wrap64 (-c)) else if op = 3 then wrap64 (b + c) else if op = 5 then wrap64 (b * c) else if op = 6 then (if c ≠ 0 then b.tmod c else 0) else if op = 7 then (if b < c then 1 else 0) else 0
/-- What an instruction that may be does; the machine stands behind it. -/
def doE (e : Event) (fan : Int) (m : Mach) (x : Instr) : Mach :=
  if x.op = 1 then m.put x.a x.b
  else if x.op = 2 then m.put x.a (m.get x.b)
  else if 3 ≤ x.op ∧ x.op ≤ 7 then m.put x.a (reckonE x.op (m.get x.b) (m.get x.c))
  else if x.op = 8 then { m with at_ := x.a }
  else if x.op = 9 then (if m.get x.a = 0 then { m with at_ := x.b } else m)
  else if x.op = 10 then m.put x.a e.key.at_
  else if x.op = 11 then m.put x.a e.kind
  else if x.op = 12 then m.put x.a e.data
  else if x.op = 13 then m.put x.a e.dst
  else if x.op = 14 then (if (m.sent.length : Int) < fan then { m with sent := m.sent ++ [⟨m.get x.a, m.get x.b, x.d, m.get x.c⟩] } else m)
  else m
/-- One step, if there is one. -/
def stepE (p : List Instr) (e : Event) (fan : Int) (m : Mach) : Option Mach :=
  if m.at_ < 0 ∨ (p.length : Int) ≤ m.at_ then none
  else match p[m.at_.toNat]? with
    | none => none
    | some x => if x.op = 15 ∨ mayE x p.length ≠ 0 then none else some (doE e fan { m with at_ := m.at_ + 1 } x)
def stepsE (p : List Instr) (e : Event) (fan : Int) : Nat → Mach → Mach
  | 0, m => m
  | f + 1, m => match stepE p e fan m with
    | none => m
    | some n => stepsE p e fan f n
def startE (s : State) : Mach := ⟨[s.n0, s.n1, s.n2, s.n3, 0, 0, 0, 0], 0, []⟩
theorem ite_len {c : Prop} [Decidable c] {a b : Mach} {n : Nat} (ha : a.cs.length = n) (hb : b.cs.length = n) : (if c then a else b).cs.length = n := by split <;> assumption
theorem doE_len (e : Event) (fan : Int) (m : Mach) (x : Instr) : (doE e fan m x).cs.length = m.cs.length := by
  unfold doE
  repeat' apply ite_len
  all_goals first | rfl | (unfold Mach.put; exact List.length_set)
/-- The cells of a machine. -/
def machCells (e : Event) (vp : Value) (m : Mach) (fan : Int) (vs : Value) : Array Value :=
  (e.cells ++ vp :: (m.cs.map (Value.int .i64) ++ [.int .i64 m.at_, .int .i64 fan, vs])).toArray
section
variable {e : Event} {vp vs u : Value} {m : Mach} {fan : Int}
theorem mach_ev {q : Nat} (hq : q < 7) (hu : e.cells[q]? = some u) : (machCells e vp m fan vs)[q]? = some u := by
  unfold machCells
  simp only [List.getElem?_toArray]
  rw [List.getElem?_append_left (by simpa [Event.cells] using hq)]; exact hu
theorem mach_prog : (machCells e vp m fan vs)[7]? = some vp := by simp [machCells, Event.cells]
theorem mach_cell (h8 : m.cs.length = 8) {a : Nat} (ha : a < 8) : (machCells e vp m fan vs)[8 + a]? = some (.int .i64 (m.get a)) := by
  unfold machCells Mach.get
  simp only [List.getElem?_toArray]
  rw [List.getElem?_append_right (by simp [Event.cells]; omega), show 8 + a - e.cells.length = a + 1 by simp [Event.cells]; omega, List.getElem?_cons_succ, List.getElem?_append_left (by simp [h8]; exact ha), List.getElem?_map]
  have : m.cs[a]? = some m.cs[a] := List.getElem?_eq_getElem (by omega)
  simp [this]
theorem mach_at (h8 : m.cs.length = 8) : (machCells e vp m fan vs)[16]? = some (.int .i64 m.at_) := by
  unfold machCells
  simp only [List.getElem?_toArray]
  rw [List.getElem?_append_right (by simp [Event.cells]), show 16 - e.cells.length = 8 + 1 by simp [Event.cells], List.getElem?_cons_succ, List.getElem?_append_right (by simp [h8])]
  simp [h8]
theorem mach_fan (h8 : m.cs.length = 8) : (machCells e vp m fan vs)[17]? = some (.int .i64 fan) := by
  unfold machCells
  simp only [List.getElem?_toArray]
  rw [List.getElem?_append_right (by simp [Event.cells]), show 17 - e.cells.length = 9 + 1 by simp [Event.cells], List.getElem?_cons_succ, List.getElem?_append_right (by simp [h8])]
  simp [h8]
theorem mach_sent (h8 : m.cs.length = 8) : (machCells e vp m fan vs)[18]? = some vs := by
  unfold machCells
  simp only [List.getElem?_toArray]
  rw [List.getElem?_append_right (by simp [Event.cells]), show 18 - e.cells.length = 10 + 1 by simp [Event.cells], List.getElem?_cons_succ, List.getElem?_append_right (by simp [h8])]
  simp [h8]
theorem mach_size (h8 : m.cs.length = 8) : (machCells e vp m fan vs).size = 19 := by simp [machCells, Event.cells, h8]
theorem mach_put (h8 : m.cs.length = 8) {a : Nat} (ha : a < 8) (v : Int) : (machCells e vp m fan vs).setIfInBounds (8 + a) (.int .i64 v) = machCells e vp (m.put a v) fan vs := by
  unfold machCells Mach.put
  rw [List.setIfInBounds_toArray]
  congr 1
  rw [List.set_append_right _ _ (by simp [Event.cells]; omega), show 8 + a - e.cells.length = a + 1 by simp [Event.cells]; omega, List.set_cons_succ, List.set_append_left _ _ (by simp [h8]; exact ha), List.map_set]
  simp
theorem mach_setat (h8 : m.cs.length = 8) (v : Int) : (machCells e vp m fan vs).setIfInBounds 16 (.int .i64 v) = machCells e vp { m with at_ := v } fan vs := by
  unfold machCells
  rw [List.setIfInBounds_toArray]
  congr 1
  rw [List.set_append_right _ _ (by simp [Event.cells]), show 16 - e.cells.length = 8 + 1 by simp [Event.cells], List.set_cons_succ, List.set_append_right _ _ (by simp [h8])]
  simp [h8]
theorem mach_setsent (h8 : m.cs.length = 8) (v : Value) (l : List Emit) : (machCells e vp m fan vs).setIfInBounds 18 v = machCells e vp { m with sent := l } fan v := by
  unfold machCells
  rw [List.setIfInBounds_toArray]
  congr 1
  rw [List.set_append_right _ _ (by simp [Event.cells]), show 18 - e.cells.length = 10 + 1 by simp [Event.cells], List.set_cons_succ, List.set_append_right _ _ (by simp [h8])]
  simp [h8]
end
end Go.Proofs.YthegonbbimmhhaaGreatDoor
/- The walk of vm.reckon. -/
namespace Go.Proofs.YthegonbbimmhhaaGreatDoor
open Go Go.RowKit Reg Mem

set_option maxRecDepth 100000 in
theorem reckon_calls (op b c : Int) (hop : 3 ≤ op ∧ op ≤ 7) (w : World) : Calls Tryz.prog 127 #[.int .i64 op, .int .i64 b, .int .i64 c] w fun r w' => r = .returned (.int .i64 (reckonE op b c)) ∧ Below w.heap.size w w' := by
  have S := St.init (fun _ => False) w
  obtain rfl | rfl | rfl | rfl | rfl : op = 3 ∨ op = 4 ∨ op = 5 ∨ op = 6 ∨ op = 7 := by omega
  · skip
    go_enter Tryz.func127, Tryz.ntmps127
    go_wp2_with first | ((with_reducible refine tot_done ?ht ?_); (case ht => kernel_rfl))
    go_ret
    exact ⟨ret_int (by simp [reckonE]), S.below⟩
  · skip
    go_enter Tryz.func127, Tryz.ntmps127
    go_wp2_with first | ((with_reducible refine tot_done ?ht ?_); (case ht => kernel_rfl))
    go_ret
    exact ⟨ret_int (by simp [reckonE]), S.below⟩
  · skip
    go_enter Tryz.func127, Tryz.ntmps127
    go_wp2_with first | ((with_reducible refine tot_done ?ht ?_); (case ht => kernel_rfl))
    go_ret
    exact ⟨ret_int (by simp [reckonE]), S.below⟩
  · by_cases h0 : c = 0
    · subst h0
      go_enter Tryz.func127, Tryz.ntmps127
      go_wp2_with first | ((with_reducible refine tot_done ?ht ?_); (case ht => kernel_rfl))
      go_ret
      exact ⟨ret_int (by simp [reckonE]), S.below⟩
    · have h1 : (c != 0) = true := by simpa using h0
      have HR := Lib.hid (show reckonE 6 b c = b.tmod c by simp [reckonE, h0])
      go_enter Tryz.func127, Tryz.ntmps127
      go_wp2_with first | ((with_reducible refine tot_done ?ht ?_); (case ht => kernel_rfl))
      go_ret
      exact ⟨ret_int HR.out.symm, S.below⟩
  · by_cases h0 : b < c
    · have HR := Lib.hid (show reckonE 7 b c = 1 by simp [reckonE, h0])
      go_enter Tryz.func127, Tryz.ntmps127
      go_wp2_with first | ((with_reducible refine tot_done ?ht ?_); (case ht => kernel_rfl))
      go_ret
      exact ⟨ret_int HR.out.symm, S.below⟩
    · have HR := Lib.hid (show reckonE 7 b c = 0 by simp [reckonE, h0])
      go_enter Tryz.func127, Tryz.ntmps127
      go_wp2_with first | ((with_reducible refine tot_done ?ht ?_); (case ht => kernel_rfl))
      go_ret
      exact ⟨ret_int HR.out.symm, S.below⟩
end Go.Proofs.YthegonbbimmhhaaGreatDoor
/- The walks of model.Check and New. -/
namespace Go.Proofs.YthegonbbimmhhaaGreatDoor
open Go Go.RowKit Reg Mem

set_option maxRecDepth 100000 in
theorem elem_In : Elem Tryz.prog 92 91 5 40 := ⟨_, .agg #[.int .i64 0, .int .i64 0, .int .i64 0, .int .i64 0, .int .i64 0], Tryz.underlying92, rfl, by kernel_rfl, by kernel_rfl, by kernel_rfl, by kernel_rfl, by omega⟩
set_option maxRecDepth 100000 in
theorem elem_Pl : Elem Tryz.prog 23 94 5 40 := ⟨_, .agg #[.int .i64 0, .int .i64 0, .int .i64 0, .int .i64 0, .int .i64 0], Tryz.underlying23, rfl, by kernel_rfl, by kernel_rfl, by kernel_rfl, by kernel_rfl, by omega⟩
set_option maxRecDepth 100000 in
theorem elem_Sta : Elem Tryz.prog 24 96 4 32 := ⟨_, .agg #[.int .i64 0, .int .i64 0, .int .i64 0, .int .i64 0], Tryz.underlying24, rfl, by kernel_rfl, by kernel_rfl, by kernel_rfl, by kernel_rfl, by omega⟩
set_option maxRecDepth 100000 in
/-- slices.Clone. -/
theorem clone_In {ad : Option Addr} {n c : Nat} {xs : List _} (w : World) (F : Nat → Prop) (h : (Sl true Instr.cells 5 (.slice ad n c) xs).at_ w F) (hn : xs.length ≤ 4294967296) :
    Calls Tryz.prog 61 #[.slice ad n c] w fun e w' => ∃ ad' c', e = .returned (.slice ad' xs.length c') ∧ (0 < xs.length → ∃ R, ad' = some ⟨R, 0, none⟩) ∧ St (fun _ => False) w w' [Own 91 Instr.cells 5 (.slice ad' xs.length c') xs] := by
  have S : St (fun _ => False) w w [Sl true Instr.cells 5 (.slice ad n c) xs] := (St.init _ w).share rfl rfl h
  have hq : ∀ (w : World) (a : Option Addr) (n c n' c' : Nat), (binOp .eql 92 (.slice a n c) (.slice none n' c')).run Tryz.prog w = .ok (.bool a.isNone) w := fun w a n c n' c' => Lib.run_eql_slice_nil w _ _ a n c n' c' Tryz.underlying92
  cases ad with
  | none =>
    have hx : xs = [] := by
      obtain ⟨a, c', e, h1, h2, _⟩ := h.1
      simp only [Value.slice.injEq] at e
      obtain ⟨rfl, rfl, rfl⟩ := e
      exact List.eq_nil_of_length_eq_zero (by have := h2 rfl; omega)
    subst hx
    go_enter Tryz.func61, Tryz.ntmps61
    go_wp2_with first | ((with_reducible refine tot_done ?ht ?_); (case ht => kernel_rfl))
    go_ret
    exact ⟨_, _, rfl, fun h => absurd h (by simp), ((S.nil 91 Instr.cells 5).pick [0] rfl)⟩
  | some a0 =>
    go_enter Tryz.func61, Tryz.ntmps61
    go_wp2_with first | ((with_reducible apply wps_build0 (T := 92) (E := 91) Instr.cells 5 S); (case hr => intro w; kernel_rfl); clear S; intro bz wz S) | ((with_reducible apply wps_appends elem_In incells inone (by decide) S 0 (j := 1)); (case hx | hy | hi | hj => rfl); (case hl => first | omega | (simp; omega)); clear S; intro az nz cz wz hnz S; simp only [List.set_cons_zero] at S) | ((with_reducible refine tot_done ?ht ?_); (case ht => kernel_rfl))
    go_ret
    obtain rfl : nz = xs.length := by have := hnz.out; simp at this; omega
    simp only [List.nil_append] at S
    refine ⟨_, _, rfl, fun h0 => ?_, S.pick [0] rfl⟩
    obtain ⟨F, hF⟩ := S.get (i := 0) rfl
    rcases hF.1.2 with ⟨_, e⟩ | ⟨g, cap, cur, e, _⟩
    · omega
    · simp only [Value.slice.injEq] at e; exact ⟨g, e.1⟩
set_option maxRecDepth 100000 in
/-- slices.Clone. -/
theorem clone_Pl {ad : Option Addr} {n c : Nat} {xs : List _} (w : World) (F : Nat → Prop) (h : (Sl true Place.cells 5 (.slice ad n c) xs).at_ w F) (hn : xs.length ≤ 4294967296) :
    Calls Tryz.prog 62 #[.slice ad n c] w fun e w' => ∃ ad' c', e = .returned (.slice ad' xs.length c') ∧ (0 < xs.length → ∃ R, ad' = some ⟨R, 0, none⟩) ∧ St (fun _ => False) w w' [Own 94 Place.cells 5 (.slice ad' xs.length c') xs] := by
  have S : St (fun _ => False) w w [Sl true Place.cells 5 (.slice ad n c) xs] := (St.init _ w).share rfl rfl h
  have hq : ∀ (w : World) (a : Option Addr) (n c n' c' : Nat), (binOp .eql 23 (.slice a n c) (.slice none n' c')).run Tryz.prog w = .ok (.bool a.isNone) w := fun w a n c n' c' => Lib.run_eql_slice_nil w _ _ a n c n' c' Tryz.underlying23
  cases ad with
  | none =>
    have hx : xs = [] := by
      obtain ⟨a, c', e, h1, h2, _⟩ := h.1
      simp only [Value.slice.injEq] at e
      obtain ⟨rfl, rfl, rfl⟩ := e
      exact List.eq_nil_of_length_eq_zero (by have := h2 rfl; omega)
    subst hx
    go_enter Tryz.func62, Tryz.ntmps62
    go_wp2_with first | ((with_reducible refine tot_done ?ht ?_); (case ht => kernel_rfl))
    go_ret
    exact ⟨_, _, rfl, fun h => absurd h (by simp), ((S.nil 94 Place.cells 5).pick [0] rfl)⟩
  | some a0 =>
    go_enter Tryz.func62, Tryz.ntmps62
    go_wp2_with first | ((with_reducible apply wps_build0 (T := 23) (E := 94) Place.cells 5 S); (case hr => intro w; kernel_rfl); clear S; intro bz wz S) | ((with_reducible apply wps_appends elem_Pl plcells plone (by decide) S 0 (j := 1)); (case hx | hy | hi | hj => rfl); (case hl => first | omega | (simp; omega)); clear S; intro az nz cz wz hnz S; simp only [List.set_cons_zero] at S) | ((with_reducible refine tot_done ?ht ?_); (case ht => kernel_rfl))
    go_ret
    obtain rfl : nz = xs.length := by have := hnz.out; simp at this; omega
    simp only [List.nil_append] at S
    refine ⟨_, _, rfl, fun h0 => ?_, S.pick [0] rfl⟩
    obtain ⟨F, hF⟩ := S.get (i := 0) rfl
    rcases hF.1.2 with ⟨_, e⟩ | ⟨g, cap, cur, e, _⟩
    · omega
    · simp only [Value.slice.injEq] at e; exact ⟨g, e.1⟩
set_option maxRecDepth 100000 in
/-- slices.Clone. -/
theorem clone_Sta {ad : Option Addr} {n c : Nat} {xs : List _} (w : World) (F : Nat → Prop) (h : (Sl true Start.cells 4 (.slice ad n c) xs).at_ w F) (hn : xs.length ≤ 4294967296) :
    Calls Tryz.prog 63 #[.slice ad n c] w fun e w' => ∃ ad' c', e = .returned (.slice ad' xs.length c') ∧ (0 < xs.length → ∃ R, ad' = some ⟨R, 0, none⟩) ∧ St (fun _ => False) w w' [Own 96 Start.cells 4 (.slice ad' xs.length c') xs] := by
  have S : St (fun _ => False) w w [Sl true Start.cells 4 (.slice ad n c) xs] := (St.init _ w).share rfl rfl h
  have hq : ∀ (w : World) (a : Option Addr) (n c n' c' : Nat), (binOp .eql 24 (.slice a n c) (.slice none n' c')).run Tryz.prog w = .ok (.bool a.isNone) w := fun w a n c n' c' => Lib.run_eql_slice_nil w _ _ a n c n' c' Tryz.underlying24
  cases ad with
  | none =>
    have hx : xs = [] := by
      obtain ⟨a, c', e, h1, h2, _⟩ := h.1
      simp only [Value.slice.injEq] at e
      obtain ⟨rfl, rfl, rfl⟩ := e
      exact List.eq_nil_of_length_eq_zero (by have := h2 rfl; omega)
    subst hx
    go_enter Tryz.func63, Tryz.ntmps63
    go_wp2_with first | ((with_reducible refine tot_done ?ht ?_); (case ht => kernel_rfl))
    go_ret
    exact ⟨_, _, rfl, fun h => absurd h (by simp), ((S.nil 96 Start.cells 4).pick [0] rfl)⟩
  | some a0 =>
    go_enter Tryz.func63, Tryz.ntmps63
    go_wp2_with first | ((with_reducible apply wps_build0 (T := 24) (E := 96) Start.cells 4 S); (case hr => intro w; kernel_rfl); clear S; intro bz wz S) | ((with_reducible apply wps_appends elem_Sta stcells stone (by decide) S 0 (j := 1)); (case hx | hy | hi | hj => rfl); (case hl => first | omega | (simp; omega)); clear S; intro az nz cz wz hnz S; simp only [List.set_cons_zero] at S) | ((with_reducible refine tot_done ?ht ?_); (case ht => kernel_rfl))
    go_ret
    obtain rfl : nz = xs.length := by have := hnz.out; simp at this; omega
    simp only [List.nil_append] at S
    refine ⟨_, _, rfl, fun h0 => ?_, S.pick [0] rfl⟩
    obtain ⟨F, hF⟩ := S.get (i := 0) rfl
    rcases hF.1.2 with ⟨_, e⟩ | ⟨g, cap, cur, e, _⟩
    · omega
    · simp only [Value.slice.injEq] at e; exact ⟨g, e.1⟩
set_option maxRecDepth 100000 in
theorem zero_Hdr : zeroIs Tryz.prog 92 1 (vcell (.slice none 0 0)) := ⟨_, .slice none 0 0, rfl, by kernel_rfl, by kernel_rfl, rfl, by decide⟩
theorem within_or (n a b : Int) : withinE n a b = 0 ∨ withinE n a b = 10 := by unfold withinE; split <;> simp
theorem within_iff {n a b : Int} : withinE n a b = 0 ↔ a ≤ n ∧ n ≤ b := by
  unfold withinE; split <;> simp <;> omega
theorem sizes_eq (c : Cfg) : firstE [withinE c.lps.length 1 32, withinE c.programs.length 1 32, withinE c.fin 1 1073741824, withinE c.fuel 1 1024, withinE c.fan 0 8] = sizesE c := by
  obtain ⟨l, hl⟩ : ∃ l, [withinE c.lps.length 1 32, withinE c.programs.length 1 32, withinE c.fin 1 1073741824, withinE c.fuel 1 1024, withinE c.fan 0 8] = l := ⟨_, rfl⟩
  have hz : firstE l = 0 ↔ sizesOk c := by
    rw [firstE_zero, ← hl]
    simp only [List.mem_cons, List.not_mem_nil, or_false, forall_eq_or_imp, forall_eq, within_iff, sizesOk]
    omega
  rw [hl]
  unfold sizesE
  split
  · exact hz.2 ‹_›
  · rcases firstE_mem l with h | h
    · exact absurd (hz.1 h) ‹_›
    · have hn : firstE l ≠ 0 := fun h => absurd (hz.1 h) ‹_›
      rw [← hl] at h
      simp only [List.mem_cons, List.not_mem_nil, or_false] at h
      rw [hl] at h
      rcases h with h | h | h | h | h <;> rw [h] at hn ⊢
      · exact (within_or _ _ _).resolve_left hn
      · exact (within_or _ _ _).resolve_left hn
      · exact (within_or _ _ _).resolve_left hn
      · exact (within_or _ _ _).resolve_left hn
      · exact (within_or _ _ _).resolve_left hn
structure Mid (c : Cfg) : Prop where
  p : c.programs.length ≤ 65536
  l : c.lps.length ≤ 65536
  s : c.starts.length ≤ 65536
set_option maxRecDepth 100000 in
set_option maxHeartbeats 4000000 in
theorem mcheck_calls (vs hs : List Value) (c : Cfg) (w : World) (F F2 : Nat → Prop) (h : (CfgA true vs hs c).at_ w F) (ht : Tab.at_ w F2) (hm : Mid c) :
    Calls Tryz.prog 60 #[.agg vs.toArray] w fun r w' => r = .returned (.int .i64 (cfgE c)) ∧ Below w.heap.size w w' := by
  have S : St (fun _ => False) w w [CfgA true vs hs c, Tab] := ((St.init _ w).share rfl rfl ht).share rfl rfl h
  obtain ⟨aP, cP, aL, cL, aS, cS, rfl, hlen, S⟩ := S.cfg 0 rfl
  replace S := S.pick [0, 1, 2, 3, 5] rfl
  simp only [pick, nth] at S
  clear h ht
  have hm1 := hm.p
  have hm2 := hm.l
  have hm3 := hm.s
  obtain ⟨ps, ls, ss, fin, fuel, fan⟩ := c
  simp only at *
  obtain ⟨r, hr⟩ : ∃ r, cfgE ⟨ps, ls, ss, fin, fuel, fan⟩ = r := ⟨_, rfl⟩
  have hq := sizes_eq ⟨ps, ls, ss, fin, fuel, fan⟩
  simp only at hq
  have e : firstE [firstE [withinE ls.length 1 32, withinE ps.length 1 32, withinE fin 1 1073741824, withinE fuel 1 1024, withinE fan 0 8], (if 256 < ss.length then 11 else 0), firstE (ps.map codeE),
      (if (∀ p ∈ ls, plOk ps.length p) ∧ (∀ s ∈ ss, stOk ls.length s) then 0 else 14), (if ∀ s ∈ ss, 0 ≤ s.at_ ∧ s.at_ ≤ fin then 0 else 18)] = r := by
    rw [← hr, hq]; rfl
  rw [hr]
  obtain ⟨x1, hx1⟩ : ∃ x, firstE [withinE ls.length 1 32, withinE ps.length 1 32, withinE fin 1 1073741824, withinE fuel 1 1024, withinE fan 0 8] = x := ⟨_, rfl⟩
  obtain ⟨x2, hx2⟩ : ∃ x : Int, (if 256 < ss.length then 11 else 0) = x := ⟨_, rfl⟩
  obtain ⟨x3, hx3⟩ : ∃ x, firstE (ps.map codeE) = x := ⟨_, rfl⟩
  obtain ⟨x4, hx4⟩ : ∃ x : Int, (if (∀ p ∈ ls, plOk ps.length p) ∧ (∀ s ∈ ss, stOk ls.length s) then 0 else 14) = x := ⟨_, rfl⟩
  obtain ⟨x5, hx5⟩ : ∃ x : Int, (if ∀ s ∈ ss, 0 ≤ s.at_ ∧ s.at_ ≤ fin then 0 else 18) = x := ⟨_, rfl⟩
  have c1 := sizes_calls aP aL aS ps.length cP ls.length cL ss.length cS fin fuel fan
  have c2 := starts_calls aP aL aS ps.length cP ls.length cL ss.length cS fin fuel fan
  have c3 := fun w F1 F2 F3 h1 h2 h3 => programs_calls aP aL aS cP ls.length cL ss.length cS fin fuel fan hs ps w F1 F2 F3 h1 h2 h3 hm1
  have c4 := fun w F1 F2 h1 h2 => ends_calls aP aL aS ps.length cP cL cS fin fuel fan ls ss w F1 F2 h1 h2 hm2 hm3
  have c5 := fun w F1 h1 => times_calls aP aL aS ps.length cP ls.length cL cS fin fuel fan ss w F1 h1 hm3
  rw [hx1] at c1 e
  rw [hx2] at c2 e
  rw [hx3] at c3 e
  rw [hx4] at c4 e
  rw [hx5] at c5 e
  clear hx1 hx2 hx3 hx4 hx5 hr hq
  have C1 := Lib.hid c1
  have C2 := Lib.hid c2
  have C3 := Lib.hid c3
  have C4 := Lib.hid c4
  have C5 := Lib.hid c5
  have E := Lib.hid e
  clear c1 c2 c3 c4 c5 e
  go_enter Tryz.func60, Tryz.ntmps60
  go_wp2_with first | ((with_reducible apply wps_boxa S); (case hx => rfl); clear S; intro bx wz S) | ((with_reducible refine tot_done ?ht ?_); (case ht => kernel_rfl)) | ((with_reducible apply wps_boxa S); (case hx => rfl); clear S; intro bz wz S) | ((with_reducible apply wps_box1 (v := .int _ _) S); (case hx | h1 => rfl); clear S; intro bz wz S) | ((with_reducible apply wps_box1 (v := .bool _) S); (case hx | h1 => rfl); clear S; intro bz wz S) | ((with_reducible apply wps_box1 (v := .slice _ _ _) S); (case hx | h1 => rfl); clear S; intro bz wz S) | ((with_reducible apply wps_box1 (v := .pointer _) S); (case hx | h1 => rfl); clear S; intro bz wz S) | ((with_reducible apply wps_box1 (v := .map _) S); (case hx | h1 => rfl); clear S; intro bz wz S) | ((with_reducible apply wps_box1 (v := .string _) S); (case hx | h1 => rfl); clear S; intro bz wz S) | ((with_reducible apply wps_box1 (v := .func _ _ _) S); (case hx | h1 => rfl); clear S; intro bz wz S) | ((with_reducible apply wps_loada (T := 26) (k := 6) S 0); (case hx | hi => rfl); (case hk => exact Nat.le_of_ble_eq_true rfl); (case hT => decide +kernel))
  (refine wp_region_w (soft := [0, 1, 2, 3, 4, 5, 6, 7, 8, 9]) S ?hm ?hB ?_); (case hm => kernel_rfl); (case hB => decide +kernel); clear S
  iterate 10
    (with_reducible apply softs_cons)
    (case hw =>
      (with_reducible apply soft_of); (case hi => rfl)
      intro T wz S
      simp only [List.cons_append, List.nil_append] at S
      go_wp2_with first | (go_at_call 82; refine Calls.mono (C1.out _) ?_; rintro e wz ⟨rfl, hE⟩; replace S := S.ext (Keep.of_below hE); clear hE) | (go_at_call 83; refine Calls.mono (C2.out _) ?_; rintro e wz ⟨rfl, hE⟩; replace S := S.ext (Keep.of_below hE); clear hE) | (go_at_call 84; refine Calls.mono (C3.out _ _ _ _ (S.get (i := 2) rfl).choose_spec (S.get (i := 1) rfl).choose_spec (S.get (i := 5) rfl).choose_spec) ?_; rintro e wz ⟨rfl, hE⟩; replace S := S.ext (Keep.of_below hE); clear hE) | (go_at_call 85; refine Calls.mono (C4.out _ _ _ (S.get (i := 3) rfl).choose_spec (S.get (i := 4) rfl).choose_spec) ?_; rintro e wz ⟨rfl, hE⟩; replace S := S.ext (Keep.of_below hE); clear hE) | (go_at_call 86; refine Calls.mono (C5.out _ _ (S.get (i := 4) rfl).choose_spec) ?_; rintro e wz ⟨rfl, hE⟩; replace S := S.ext (Keep.of_below hE); clear hE) | ((with_reducible refine tot_done ?ht ?_); (case ht => kernel_rfl)) | ((with_reducible apply wps_loada (T := 26) (k := 6) S 0); (case hx | hi => rfl); (case hk => exact Nat.le_of_ble_eq_true rfl); (case hT => decide +kernel))
      exact ⟨rfl, S⟩)
    (case hs => exact ⟨_, rfl, by kernel_rfl⟩)
  refine softs_nil ?_
  repeat'
    (first
      | ((with_reducible apply W_hard1 (i := 10)); (case hn => rfl); (case hr => decide +kernel)) | ((with_reducible apply W_hard1 (i := 11)); (case hn => rfl); (case hr => decide +kernel)) | ((with_reducible apply W_hard1 (i := 12)); (case hn => rfl); (case hr => decide +kernel)) | ((with_reducible apply W_hard2 (i := 10) (i' := 11)); (case hn => rfl); (case hr => decide +kernel)) | ((with_reducible apply W_hard2 (i := 10) (i' := 12)); (case hn => rfl); (case hr => decide +kernel)) | ((with_reducible apply W_hard2 (i := 11) (i' := 12)); (case hn => rfl); (case hr => decide +kernel)))
    all_goals
      intro wz S
      (with_reducible apply hard_of); (case hi => rfl)
      simp only [List.cons_append, List.nil_append] at S
      try simp only [pick, nth] at S
      go_wp2_with first | ((with_reducible apply wps_buildSlice (T := 193) (E := 37) (cs := #[.int .i64 x1, .int .i64 x2, .int .i64 x3, .int .i64 x4, .int .i64 x5]) S); (case hr => intro w; kernel_rfl); clear S; intro bz wz S) | (go_at_call 81; refine Calls.mono (first_calls _ [x1, x2, x3, x4, x5] _ _ (blk_sl _ intE_len (S.get (i := 6) rfl).choose_spec rfl rfl) (Nat.le_of_ble_eq_true rfl)) ?_; rintro e wz ⟨rfl, hE⟩; replace S := S.ext (Keep.of_below hE); clear hE) | ((with_reducible refine tot_done ?ht ?_); (case ht => kernel_rfl)) | ((with_reducible apply wps_loada (T := 26) (k := 6) S 0); (case hx | hi => rfl); (case hk => exact Nat.le_of_ble_eq_true rfl); (case hT => decide +kernel)) | ((with_reducible apply wps_loada (T := 26) (k := 6) S 1); (case hx | hi => rfl); (case hk => exact Nat.le_of_ble_eq_true rfl); (case hT => decide +kernel)) | ((with_reducible apply wps_loada (T := 26) (k := 6) S 2); (case hx | hi => rfl); (case hk => exact Nat.le_of_ble_eq_true rfl); (case hT => decide +kernel)) | ((with_reducible apply wps_loada (T := 26) (k := 6) S 3); (case hx | hi => rfl); (case hk => exact Nat.le_of_ble_eq_true rfl); (case hT => decide +kernel)) | ((with_reducible apply wps_loada (T := 26) (k := 6) S 4); (case hx | hi => rfl); (case hk => exact Nat.le_of_ble_eq_true rfl); (case hT => decide +kernel)) | ((with_reducible apply wps_loada (T := 26) (k := 6) S 5); (case hx | hi => rfl); (case hk => exact Nat.le_of_ble_eq_true rfl); (case hT => decide +kernel))
      first
        | refine ⟨_, S.pick [1, 2, 3, 4, 5, 6, 7, 8, 9, 10, 0] rfl, ?_⟩
        | refine ⟨_, S.pick [1, 2, 3, 4, 5, 6, 7, 8, 9, 0] rfl, ?_⟩
        | refine ⟨_, S.pick [1, 2, 3, 4, 5, 6, 7, 8, 0] rfl, ?_⟩
        | refine ⟨_, S.pick [1, 2, 3, 4, 5, 6, 7, 0] rfl, ?_⟩
        | refine ⟨_, S.pick [1, 2, 3, 4, 5, 6, 0] rfl, ?_⟩
        | refine ⟨_, S, ?_⟩
  (with_reducible apply W_done); (case hn => rfl); (case hr => decide +kernel)
  clear S
  intro wz S
  simp only [List.cons_append, List.nil_append] at S
  try simp only [pick, nth] at S
  go_wp2_with first | ((with_reducible refine tot_done ?ht ?_); (case ht => kernel_rfl)) | ((with_reducible apply wps_text S); (case hm => kernel_rfl); (case hB => decide +kernel); clear S; intro wz S) | ((with_reducible apply wps_loada (T := 26) (k := 6) S 0); (case hx | hi => rfl); (case hk => exact Nat.le_of_ble_eq_true rfl); (case hT => decide +kernel))
  go_ret
  exact ⟨ret_int E.out, S.below⟩
end Go.Proofs.YthegonbbimmhhaaGreatDoor
/- 'copy' between blocks that are known whole. Over any program. -/
namespace Go.Proofs.YthegonbbimmhhaaGreatDoor.Mem
open Go Go.RowKit Reg
section
variable {P : Program} {ops : Array Oper} {rest : List Oper} {a : Act} {Q : Exit → Act → World → Prop} {d : Option Tmp} {tt : TypeId} {p : String} {af : Array Edge} {gd : Option (Nat × Bool)} {x y : Operand}
variable {G : Nat → Prop} {w0 w w' : World} {L : List Asn}
theorem wps_copyb {b o dLen dCap b2 o2 sLen sCap : Nat} {cs cs2 : Array Value} {t t2 dT sT elem : TypeId} {sh : Bool} (S : St G w0 w L) (i : Nat) (hi : L[i]? = some (Blk false b cs t)) (j : Nat) (hj : L[j]? = some (Blk sh b2 cs2 t2)) (us : List Value)
    (hx : a.eval x = .slice (some ⟨b, o, none⟩) dLen dCap) (hy : a.eval y = .slice (some ⟨b2, o2, none⟩) sLen sCap) (hu : P.underlying dT = some (.slice elem)) (hsz : (match P.info? elem with | some i => i.size == 1 | none => false) = true)
    (hn : us.length = Nat.min sLen dLen) (hsrc : ∀ k v, us[k]? = some v → cs2[o2 + k]? = some v) (hfit : o + us.length ≤ cs.size) (h1 : us.all Value.oneCell' = true)
    (next : ∀ w', St G w0 w' (L.set i (Blk false b (splice cs o us) t)) → wpList P ops Q rest (a.put d (.int .i64 us.length)) w') (hgd : gOk gd ops a = true := by with_unfolding_all rfl) :
    wpList P ops Q ({ dst := d, op := .call { callee := .builtin .copy, args := #[x, y], argTypes := #[dT, sT] }, type := tt, pos := p, after := af, guard := gd } :: rest) a w :=
  wpList_ok hgd fun K hK => by
    have hs : (P.info? elem).map (·.size) = some 1 := by
      cases h : P.info? elem with
      | none => rw [h] at hsz; simp at hsz
      | some i => rw [h] at hsz; simpa using hsz
    have hr := run_copy_row (P := P) w dT sT tt elem b o dLen dCap ⟨b2, o2, none⟩ sLen sCap cs t us hu hs (S.blk i hi) hn
      (fun k v hk => by
        have : (Addr.add ⟨b2, o2, none⟩ k) = ⟨b2, o2 + k, none⟩ := by simp [Addr.add]
        rw [this, cell_of (S.blk j hj)]; exact hsrc k v hk) hfit (by simpa using h1)
    unfold Oper.wp execOp
    simp [resolve, invoke, builtin, hx, hy, hr, Result.andThen]
    refine hK _ _ (next _ (S.step hi rfl fun F hF => ⟨F, setRow_keep.mono (fun z _ hn e => hn ((hF.2 z).2 e)), ⟨?_, hF.2⟩, fun _ h => .inl h⟩))
    rw [show splice cs o us = (List.take o cs.toList ++ (us ++ List.drop (o + us.length) cs.toList)).toArray by simp [splice]]
    exact setRow_heap w b cs _ t _ (S.blk i hi)
end
end Go.Proofs.YthegonbbimmhhaaGreatDoor.Mem

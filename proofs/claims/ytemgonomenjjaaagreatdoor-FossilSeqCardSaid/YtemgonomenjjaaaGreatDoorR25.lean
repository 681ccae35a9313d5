import Derived.Test.YtemgonomenjjaaaGreatDoorR23
import Derived.Deep.Cut
import Derived.Test.YtemgonomenjjaaaGreatDoorR18
import Derived.Test.YtemgonomenjjaaaGreatDoorR09
import Derived.Test.YtemgonomenjjaaaGreatDoorR14
/- A heap as a thing of the state; New, Len, Push, Get, First. -/
namespace Go.Proofs.YtemgonomenjjaaaGreatDoor
open Go.RowKit Reg Mem

/-- A heap of these rows, in order. -/
def heapA (B : Nat) (s : List Row) : Asn := exs false fun p : Nat × Value × List Row => sep false (pur (Ordered p.2.2 ∧ p.2.2.Perm s ∧ HSorted s)) (rawH B p.1 p.2.1 p.2.2)
theorem heap_open {G : Nat → Prop} {w0 w : World} {L : List Asn} {B : Nat} {s : List Row} (S : St G w0 w (heapA B s :: L)) :
    ∃ M v rows, Ordered rows ∧ rows.Perm s ∧ HSorted s ∧ St G w0 w (MapA false Tryz.prog 76 Key.cells M (posMap rows) :: Own 186 Row.cells 11 v rows :: Blk false B #[v, .map (some M)] 181 :: L) := by
  obtain ⟨⟨M, v, rows⟩, S⟩ := S.open_exs (fun _ => rfl)
  obtain ⟨⟨h1, h2, h3⟩, S⟩ := (S.open_sep rfl rfl).open_pur
  exact ⟨M, v, rows, h1, h2, h3, rawH_open S⟩
theorem heap_raw {G : Nat → Prop} {w0 w : World} {L : List Asn} {B M : Nat} {v : Value} {rows s : List Row} (S : St G w0 w (rawH B M v rows :: L)) (h1 : Ordered rows) (h2 : rows.Perm s) (h3 : HSorted s) : St G w0 w (heapA B s :: L) :=
  ((S.close_pur ⟨h1, h2, h3⟩).close_sep rfl rfl).close_exs (A := fun p : Nat × Value × List Row => sep false (pur (Ordered p.2.2 ∧ p.2.2.Perm s ∧ HSorted s)) (rawH B p.1 p.2.1 p.2.2)) (M, v, rows) rfl
theorem heap_close {G : Nat → Prop} {w0 w : World} {L : List Asn} {B M : Nat} {v : Value} {rows s : List Row}
    (S : St G w0 w (MapA false Tryz.prog 76 Key.cells M (posMap rows) :: Own 186 Row.cells 11 v rows :: Blk false B #[v, .map (some M)] 181 :: L)) (h1 : Ordered rows) (h2 : rows.Perm s) (h3 : HSorted s) : St G w0 w (heapA B s :: L) := heap_raw (rawH_close S) h1 h2 h3
theorem posMap_nil : posMap [] = fun _ => none := by funext k; rfl
theorem hnew_calls (w : World) : Calls Tryz.prog 64 #[] w fun e w' => ∃ B, e = .returned (.pointer (some ⟨B, 0, none⟩)) ∧ St (fun _ => False) w w' [heapA B []] := by
  have S := St.init (fun _ => False) w
  go_enter Tryz.func64, Tryz.ntmps64
  go_wp2_with first | ((with_reducible apply wps_makeMap (P := Tryz.prog) (K := 76) S Key.cells); clear S; intro M wz S) | ((with_reducible apply wps_boxa S); (case hx => rfl); clear S; intro bz wz S)
  go_ret
  refine ⟨_, rfl, ?_⟩
  have S2 := (S.nil 186 Row.cells 11).pick [2, 0, 1] rfl
  simp only [pick, nth] at S2
  rw [← posMap_nil] at S2
  exact heap_close S2 (fun i r p _ hr => by simp at hr) (.refl _) List.Pairwise.nil
def errnoT : Int → Value := fun e => .int .i64 e
set_option maxHeartbeats 1000000 in
set_option maxRecDepth 100000 in
theorem hpush_calls (B : Nat) (s : List Row) (k : Key) (x : Thing) (w : World) (F : Nat → Prop) (h : (heapA B s).at_ w F) (hmax : s.length < 4294967296) :
    Calls Tryz.prog 99 #[.pointer (some ⟨B, 0, none⟩), .agg #[.int .i64 k.at_, .int .i64 k.src, .int .i64 k.sent, .int .i64 k.no], .agg #[.int .i64 x.key.at_, .int .i64 x.key.src, .int .i64 x.key.sent, .int .i64 x.key.no, .int .i64 x.dst, .int .i64 x.kind, .int .i64 x.data]] w fun e w' => e = .returned (.int .i64 (PushAns s ⟨k, x⟩)) ∧ St F w w' [heapA B (pushed s ⟨k, x⟩)] := by
  obtain ⟨M, v, rows, ho, hp, hs, S⟩ := heap_open (St.one w h)
  obtain ⟨ad, cp, rfl, _⟩ := (S.ownsl hcells 1 rfl).elim fun _ h => h.form
  have hl := hp.length_eq
  have hl2 : rows.length < 4294967296 := by omega
  have hl3 : (rows.length : Int) < 4294967296 := by omega
  have Ho := Lib.hid ho
  have Hp := Lib.hid hp
  have Hs := Lib.hid hs
  have Hl := Lib.hid hl
  clear ho hp hs hl
  clear h
  by_cases hk : k ∈ s.map (·.key)
  · obtain ⟨r0, hr0, hk0⟩ := List.mem_map.1 ((key_perm Hp.out k).2 hk)
    obtain ⟨n, hn, he⟩ := List.mem_iff_getElem.1 hr0
    have hpm := posMap_some (Hs.out.nodup_of Hp.out) (i := n) (r := r0) (by rw [List.getElem?_eq_getElem hn, he])
    rw [hk0] at hpm
    have Hpm := Lib.hid hpm
    have Hk := Lib.hid hk
    clear hpm hk
    clear hr0 hk0 he hn
    go_enter Tryz.func99, Tryz.ntmps99
    go_upto_region 1 with first | ((with_reducible apply wps_boxa S); (case hx => rfl); clear S; intro bz wz S)
    replace S := S.pick [1, 2, 3, 4, 0] rfl
    simp only [pick, nth] at S
    go_wp2_with first | ((with_reducible apply wps_lookup_ok keyed Tryz.underlying178 (S := S) (i := 1) (zv := .int .i64 0) (v := .int .i64 n) (b := true) (k := k)); (case hx | hi => rfl); (case hy => exact (wholeKey _).symm); (case hz => exact Tryz.zeroValue3); (case hv | hb => rw [Hpm.out]; rfl)) | ((with_reducible refine tot_done ?ht ?_); (case ht => kernel_rfl)) | ((with_reducible apply wps_text S); (case hm => kernel_rfl); (case hB => decide +kernel); clear S; intro wz S) | ((with_reducible apply wps_loada (T := 76) (k := 4) S 0); (case hx | hi => rfl); (case hk => exact Nat.le_of_ble_eq_true rfl); (case hT => decide +kernel)) | ((with_reducible apply wps_load S 3); (case hx | hi | hu => rfl); (case hT => decide +kernel))
    go_ret
    refine ⟨by rw [PushAns, if_pos Hk.out]; rfl, ?_⟩
    rw [pushed, if_pos Hk.out]
    exact heap_close (S.pick [1, 2, 3] rfl) Ho.out Hp.out Hs.out
  · have hk2 : k ∉ rows.map (·.key) := fun h => hk ((key_perm Hp.out k).1 h)
    have hpm := posMap_none hk2
    have HPU := Lib.hid (posMap_push (rows := rows) (r := ⟨k, x⟩) hk2 (Hs.out.nodup_of Hp.out))
    have HND := Lib.hid (nodup_push (r := ⟨k, x⟩) hk2 (Hs.out.nodup_of Hp.out))
    have Hpm := Lib.hid hpm
    have Hk := Lib.hid hk
    have Hk2 := Lib.hid hk2
    clear hpm hk hk2
    go_enter Tryz.func99, Tryz.ntmps99
    go_upto_region 1 with first | ((with_reducible apply wps_boxa S); (case hx => rfl); clear S; intro bz wz S)
    replace S := S.pick [1, 2, 3, 4, 0] rfl
    simp only [pick, nth] at S
    go_upto_region 7 with first | ((with_reducible apply wps_lookup_ok keyed Tryz.underlying178 (S := S) (i := 1) (zv := .int .i64 0) (v := .int .i64 0) (b := false) (k := k)); (case hx | hi => rfl); (case hy => exact (wholeKey _).symm); (case hz => exact Tryz.zeroValue3); (case hv | hb => rw [Hpm.out]; rfl)) | ((with_reducible apply wps_build1a (T := 179) (E := 186) S); (case hx => rfl); (case hr => intro w; kernel_rfl); clear S; intro bz wz S) | ((with_reducible apply wps_append1 elem_Row hcells hone (by decide) S 3 (j := 0) (e := ⟨k,x⟩)); (case hx | hy | hi | hj | he => rfl); (case hl => first | omega | (simp; omega)); clear S; intro az nz cz wz hnz S; simp only [List.set_cons_succ, List.set_cons_zero] at S) | ((with_reducible apply wps_store (u := (.slice az nz cz)) S 4); (case hx | hy | hi | h1 => rfl); (case hn => exact Nat.le_of_ble_eq_true rfl); (case hT => decide +kernel); clear S; intro wz S; simp only [List.set_cons_succ, List.set_cons_zero, List.setIfInBounds_toArray] at S) | ((with_reducible refine tot_done ?ht ?_); (case ht => kernel_rfl)) | ((with_reducible apply wps_text S); (case hm => kernel_rfl); (case hB => decide +kernel); clear S; intro wz S) | ((with_reducible apply wps_loada (T := 76) (k := 4) S 0); (case hx | hi => rfl); (case hk => exact Nat.le_of_ble_eq_true rfl); (case hT => decide +kernel)) | ((with_reducible apply wps_load S 3); (case hx | hi | hu => rfl); (case hT => decide +kernel)) | ((with_reducible apply wps_loada (T := 78) (k := 7) S 4); (case hx | hi => rfl); (case hk => exact Nat.le_of_ble_eq_true rfl); (case hT => decide +kernel))
    obtain rfl : nz = rows.length + 1 := hnz.out
    replace S := S.pick [2, 3, 4, 1] rfl
    simp only [pick, nth] at S
    go_wp2_with first | ((with_reducible apply wps_mapUpdate keyed Tryz.underlying178 S 0 (k := k) (v := .int .i64 rows.length)); (case hx | hi => rfl); (case hy => exact (wholeKey _).symm); (case hz => rfl); clear S; intro wz S; simp only [List.set_cons_zero] at S) | ((with_reducible refine tot_done ?ht ?_); (case ht => kernel_rfl)) | ((with_reducible apply wps_text S); (case hm => kernel_rfl); (case hB => decide +kernel); clear S; intro wz S) | ((with_reducible apply wps_load S 2); (case hx | hi | hu => rfl); (case hT => decide +kernel)) | ((with_reducible apply wps_loada (T := 76) (k := 4) S 3); (case hx | hi => rfl); (case hk => exact Nat.le_of_ble_eq_true rfl); (case hT => decide +kernel))
    rw [HPU.out] at S
    replace S := rawH_close S
    go_wp2_with first | (go_at_call 120; obtain ⟨Fz, hF, hBk⟩ := S.lend1 0 rfl rfl; refine Calls.mono (up_calls _ _ _ _ _ _ _ hF HND.out (by simp) (by simp; omega)) ?_; rintro e wz ⟨rfl, T⟩; replace S := hBk _ _ rfl T; clear hBk hF T; simp only [List.set_cons_zero] at S)
    go_ret
    refine ⟨by rw [PushAns, if_neg Hk.out]; rfl, ?_⟩
    rw [pushed, if_neg Hk.out]
    refine (heap_raw S (push_ordered Ho.out _) ?_ (ins_sorted _ _ Hs.out Hk.out)).pick [0] rfl
    refine (hup_perm _ _ _).trans (List.Perm.trans ?_ (ins_perm _ _).symm)
    exact (List.perm_append_singleton _ _).trans (Hp.out.cons _)
end Go.Proofs.YtemgonomenjjaaaGreatDoor
/- The walks of a heap's Get, First, Pull, Pop. -/
namespace Go.Proofs.YtemgonomenjjaaaGreatDoor
open Go.RowKit Reg Mem

theorem heapR_st {B : Nat} {s : List Row} {w : World} {F : Nat → Prop} (h : (heapA B s).at_ w F) :
    ∃ M v rows, Ordered rows ∧ rows.Perm s ∧ HSorted s ∧ St (fun _ => False) w w [MapA true Tryz.prog 76 Key.cells M (posMap rows), Sl true Row.cells 11 v rows, Blk true B #[v, .map (some M)] 181] := by
  obtain ⟨⟨M, v, rows⟩, F1, F2, ⟨⟨h1, h2, h3⟩, _⟩, h4, _, _⟩ := h
  exact ⟨M, v, rows, h1, h2, h3, rawR_st h4⟩
def foundVal (s : List Row) (k : Key) : Value :=
  match s.find? (fun x => x.key = k) with
  | some r => .tuple #[.agg #[.int .i64 r.v.key.at_, .int .i64 r.v.key.src, .int .i64 r.v.key.sent, .int .i64 r.v.key.no, .int .i64 r.v.dst, .int .i64 r.v.kind, .int .i64 r.v.data], .int .i64 0]
  | none => .tuple #[.agg #[.int .i64 0, .int .i64 0, .int .i64 0, .int .i64 0, .int .i64 0, .int .i64 0, .int .i64 0], .int .i64 14]
def firstVal : List Row → Value
  | [] => .tuple #[.agg #[.int .i64 0, .int .i64 0, .int .i64 0, .int .i64 0], .agg #[.int .i64 0, .int .i64 0, .int .i64 0, .int .i64 0, .int .i64 0, .int .i64 0, .int .i64 0], .int .i64 14]
  | r :: _ => .tuple #[.agg #[.int .i64 r.key.at_, .int .i64 r.key.src, .int .i64 r.key.sent, .int .i64 r.key.no], .agg #[.int .i64 r.v.key.at_, .int .i64 r.v.key.src, .int .i64 r.v.key.sent, .int .i64 r.v.key.no, .int .i64 r.v.dst, .int .i64 r.v.kind, .int .i64 r.v.data], .int .i64 0]
set_option maxRecDepth 100000 in
theorem hfirst_calls (B : Nat) (s : List Row) (w : World) (F : Nat → Prop) (h : (heapA B s).at_ w F) :
    Calls Tryz.prog 100 #[.pointer (some ⟨B, 0, none⟩)] w fun e w' => e = .returned (firstVal s) ∧ Below w.heap.size w w' := by
  obtain ⟨M, v, rows, ho, hp, hs, S⟩ := heapR_st h
  obtain ⟨ad, cp, rfl, _⟩ := (S.sl 1 rfl).elim fun _ h => h.form
  clear h
  cases rows with
  | nil =>
    obtain rfl : s = [] := hp.symm.eq_nil
    go_enter Tryz.func100, Tryz.ntmps100
    go_wp2_with first | ((with_reducible apply wps_alloca (E := 76) S); (case hz => exact Tryz.zeroValue76); clear S; intro bz wz S) | ((with_reducible apply wps_alloca (E := 78) S); (case hz => exact Tryz.zeroValue78); clear S; intro bz wz S) | ((with_reducible apply wps_load S 4); (case hx | hi | hu => rfl); (case hT => decide +kernel))
    replace S := S.pick [2, 3, 4, 1, 0] rfl
    simp only [pick, nth] at S
    (refine wp_region_wt (soft := []) (L := [_, _, _]) (T := [_, _]) S ?hm ?hB ?_); (case hm => kernel_rfl); (case hB => decide +kernel); clear S
    iterate 0
      (with_reducible apply softs_cons)
      (case hw =>
        (with_reducible apply soft_of); (case hi => rfl)
        intro T wz S
        simp only [List.cons_append, List.nil_append] at S
        go_wp2_with first | ((with_reducible apply wps_loada (T := 78) (k := 7) S 5); (case hx | hi => rfl); (case hk => exact Nat.le_of_ble_eq_true rfl); (case hT => decide +kernel))
        exact ⟨rfl, S⟩)
      (case hs => exact ⟨_, rfl, by kernel_rfl⟩)
    refine softs_nil ?_
    (with_reducible apply W_hard2 (i := 0) (i' := 1)); (case hn => rfl); (case hr => decide +kernel)
    focus
      intro wz S
      (with_reducible apply hard_of); (case hi => rfl)
      simp only [List.cons_append, List.nil_append] at S
      go_wp2_with first | ((with_reducible refine tot_done ?ht ?_); (case ht => kernel_rfl)) | ((with_reducible apply wps_loada (T := 76) (k := 4) S 3); (case hx | hi => rfl); (case hk => exact Nat.le_of_ble_eq_true rfl); (case hT => decide +kernel))
      refine ⟨_, S, ?_⟩
      clear S
      (with_reducible apply W_hard2 (i := 1) (i' := 2)); (case hn => rfl); (case hr => decide +kernel)
      focus
        intro wz S
        (with_reducible apply hard_of); (case hi => rfl)
        simp only [List.cons_append, List.nil_append] at S
        go_wp2_with first | ((with_reducible refine tot_done ?ht ?_); (case ht => kernel_rfl)) | ((with_reducible apply wps_loada (T := 78) (k := 7) S 4); (case hx | hi => rfl); (case hk => exact Nat.le_of_ble_eq_true rfl); (case hT => decide +kernel))
        refine ⟨_, S, ?_⟩
        clear S
        (with_reducible apply W_hard1 (i := 2)); (case hn => rfl); (case hr => decide +kernel)
        intro wz S
        (with_reducible apply hard_of); (case hi => rfl)
        simp only [List.cons_append, List.nil_append] at S
        go_wp2_with first | ((with_reducible apply wps_storea (T := 76) S 3 (vs := [.int .i64 0, .int .i64 0, .int .i64 0, .int .i64 0]) (m := 4)); (case hx | hy | hi | hm | h1 => rfl); (case hn => exact Nat.le_of_ble_eq_true rfl); (case hT => decide +kernel); clear S; intro wz S; simp only [List.set_cons_zero, List.set_cons_succ, setAll, List.setIfInBounds_toArray] at S) | ((with_reducible refine tot_done ?ht ?_); (case ht => kernel_rfl))
        refine ⟨_, S, ?_⟩
        clear S
        (with_reducible apply W_hard1 (i := 3)); (case hn => rfl); (case hr => decide +kernel)
        intro wz S
        (with_reducible apply hard_of); (case hi => rfl)
        simp only [List.cons_append, List.nil_append] at S
        go_wp2_with first | ((with_reducible apply wps_storea (T := 78) S 4 (vs := [.int .i64 0, .int .i64 0, .int .i64 0, .int .i64 0, .int .i64 0, .int .i64 0, .int .i64 0]) (m := 7)); (case hx | hy | hi | hm | h1 => rfl); (case hn => exact Nat.le_of_ble_eq_true rfl); (case hT => decide +kernel); clear S; intro wz S; simp only [List.set_cons_zero, List.set_cons_succ, setAll, List.setIfInBounds_toArray] at S) | ((with_reducible refine tot_done ?ht ?_); (case ht => kernel_rfl))
        refine ⟨_, S, ?_⟩
        clear S
        (refine W_mid (f := 0) (soft := [4]) rfl ?hB ?_); (case hB => decide +kernel)
        iterate 1
          (with_reducible apply softs_cons)
          (case hw =>
            (with_reducible apply soft_of); (case hi => rfl)
            intro T wz S
            simp only [List.cons_append, List.nil_append] at S
            go_wp2_with first | ((with_reducible refine tot_done ?ht ?_); (case ht => kernel_rfl))
            exact ⟨rfl, S⟩)
          (case hs => exact ⟨_, rfl, by kernel_rfl⟩)
        refine softs_nil ?_
        (with_reducible apply W_done); (case hn => rfl); (case hr => decide +kernel)
        intro wz S
        repeat (first | simp only at S | simp only [pick] at S | simp only [nth] at S | simp only [List.set_cons_succ] at S | simp only [List.set_cons_zero] at S | simp only [List.setIfInBounds_toArray] at S | simp only [setAll] at S | simp only [List.cons_append] at S | simp only [List.nil_append] at S | simp only [List.append_nil] at S)
      rotate_left 1
      focus
        intro wz S
        (with_reducible apply hard_of); (case hi => rfl)
        simp only [List.cons_append, List.nil_append] at S
        go_wp2_with first | ((with_reducible apply wps_storea (T := 76) S 3 (vs := [.int .i64 0, .int .i64 0, .int .i64 0, .int .i64 0]) (m := 4)); (case hx | hy | hi | hm | h1 => rfl); (case hn => exact Nat.le_of_ble_eq_true rfl); (case hT => decide +kernel); clear S; intro wz S; simp only [List.set_cons_zero, List.set_cons_succ, setAll, List.setIfInBounds_toArray] at S) | ((with_reducible refine tot_done ?ht ?_); (case ht => kernel_rfl))
        refine ⟨_, S, ?_⟩
        clear S
        (with_reducible apply W_hard1 (i := 1)); (case hn => rfl); (case hr => decide +kernel)
        intro wz S
        (with_reducible apply hard_of); (case hi => rfl)
        simp only [List.cons_append, List.nil_append] at S
        go_wp2_with first | ((with_reducible refine tot_done ?ht ?_); (case ht => kernel_rfl)) | ((with_reducible apply wps_loada (T := 78) (k := 7) S 4); (case hx | hi => rfl); (case hk => exact Nat.le_of_ble_eq_true rfl); (case hT => decide +kernel))
        refine ⟨_, S, ?_⟩
        clear S
        (with_reducible apply W_hard1 (i := 3)); (case hn => rfl); (case hr => decide +kernel)
        intro wz S
        (with_reducible apply hard_of); (case hi => rfl)
        simp only [List.cons_append, List.nil_append] at S
        go_wp2_with first | ((with_reducible apply wps_storea (T := 78) S 4 (vs := [.int .i64 0, .int .i64 0, .int .i64 0, .int .i64 0, .int .i64 0, .int .i64 0, .int .i64 0]) (m := 7)); (case hx | hy | hi | hm | h1 => rfl); (case hn => exact Nat.le_of_ble_eq_true rfl); (case hT => decide +kernel); clear S; intro wz S; simp only [List.set_cons_zero, List.set_cons_succ, setAll, List.setIfInBounds_toArray] at S) | ((with_reducible refine tot_done ?ht ?_); (case ht => kernel_rfl))
        refine ⟨_, S, ?_⟩
        clear S
        (refine W_mid (f := 0) (soft := [4]) rfl ?hB ?_); (case hB => decide +kernel)
        iterate 1
          (with_reducible apply softs_cons)
          (case hw =>
            (with_reducible apply soft_of); (case hi => rfl)
            intro T wz S
            simp only [List.cons_append, List.nil_append] at S
            go_wp2_with first | ((with_reducible refine tot_done ?ht ?_); (case ht => kernel_rfl))
            exact ⟨rfl, S⟩)
          (case hs => exact ⟨_, rfl, by kernel_rfl⟩)
        refine softs_nil ?_
        (with_reducible apply W_done); (case hn => rfl); (case hr => decide +kernel)
        intro wz S
        repeat (first | simp only at S | simp only [pick] at S | simp only [nth] at S | simp only [List.set_cons_succ] at S | simp only [List.set_cons_zero] at S | simp only [List.setIfInBounds_toArray] at S | simp only [setAll] at S | simp only [List.cons_append] at S | simp only [List.nil_append] at S | simp only [List.append_nil] at S)
    rotate_left 2
    focus
      intro wz S
      (with_reducible apply hard_of); (case hi => rfl)
      simp only [List.cons_append, List.nil_append] at S
      go_wp2_with first | ((with_reducible refine tot_done ?ht ?_); (case ht => kernel_rfl)) | ((with_reducible apply wps_loada (T := 78) (k := 7) S 4); (case hx | hi => rfl); (case hk => exact Nat.le_of_ble_eq_true rfl); (case hT => decide +kernel))
      refine ⟨_, S, ?_⟩
      clear S
      (with_reducible apply W_hard1 (i := 0)); (case hn => rfl); (case hr => decide +kernel)
      intro wz S
      (with_reducible apply hard_of); (case hi => rfl)
      simp only [List.cons_append, List.nil_append] at S
      go_wp2_with first | ((with_reducible refine tot_done ?ht ?_); (case ht => kernel_rfl)) | ((with_reducible apply wps_loada (T := 76) (k := 4) S 3); (case hx | hi => rfl); (case hk => exact Nat.le_of_ble_eq_true rfl); (case hT => decide +kernel))
      refine ⟨_, S, ?_⟩
      clear S
      (with_reducible apply W_hard1 (i := 2)); (case hn => rfl); (case hr => decide +kernel)
      intro wz S
      (with_reducible apply hard_of); (case hi => rfl)
      simp only [List.cons_append, List.nil_append] at S
      go_wp2_with first | ((with_reducible apply wps_storea (T := 76) S 3 (vs := [.int .i64 0, .int .i64 0, .int .i64 0, .int .i64 0]) (m := 4)); (case hx | hy | hi | hm | h1 => rfl); (case hn => exact Nat.le_of_ble_eq_true rfl); (case hT => decide +kernel); clear S; intro wz S; simp only [List.set_cons_zero, List.set_cons_succ, setAll, List.setIfInBounds_toArray] at S) | ((with_reducible refine tot_done ?ht ?_); (case ht => kernel_rfl))
      refine ⟨_, S, ?_⟩
      clear S
      (with_reducible apply W_hard1 (i := 3)); (case hn => rfl); (case hr => decide +kernel)
      intro wz S
      (with_reducible apply hard_of); (case hi => rfl)
      simp only [List.cons_append, List.nil_append] at S
      go_wp2_with first | ((with_reducible apply wps_storea (T := 78) S 4 (vs := [.int .i64 0, .int .i64 0, .int .i64 0, .int .i64 0, .int .i64 0, .int .i64 0, .int .i64 0]) (m := 7)); (case hx | hy | hi | hm | h1 => rfl); (case hn => exact Nat.le_of_ble_eq_true rfl); (case hT => decide +kernel); clear S; intro wz S; simp only [List.set_cons_zero, List.set_cons_succ, setAll, List.setIfInBounds_toArray] at S) | ((with_reducible refine tot_done ?ht ?_); (case ht => kernel_rfl))
      refine ⟨_, S, ?_⟩
      clear S
      (refine W_mid (f := 0) (soft := [4]) rfl ?hB ?_); (case hB => decide +kernel)
      iterate 1
        (with_reducible apply softs_cons)
        (case hw =>
          (with_reducible apply soft_of); (case hi => rfl)
          intro T wz S
          simp only [List.cons_append, List.nil_append] at S
          go_wp2_with first | ((with_reducible refine tot_done ?ht ?_); (case ht => kernel_rfl))
          exact ⟨rfl, S⟩)
        (case hs => exact ⟨_, rfl, by kernel_rfl⟩)
      refine softs_nil ?_
      (with_reducible apply W_done); (case hn => rfl); (case hr => decide +kernel)
      intro wz S
      repeat (first | simp only at S | simp only [pick] at S | simp only [nth] at S | simp only [List.set_cons_succ] at S | simp only [List.set_cons_zero] at S | simp only [List.setIfInBounds_toArray] at S | simp only [setAll] at S | simp only [List.cons_append] at S | simp only [List.nil_append] at S | simp only [List.append_nil] at S)
    all_goals
      go_wp2_with first | ((with_reducible apply wps_loada (T := 78) (k := 7) S 5); (case hx | hi => rfl); (case hk => exact Nat.le_of_ble_eq_true rfl); (case hT => decide +kernel))
      (try simp only [Exit.inBlock, Exit.then]); refine bodyPost_ret (results3 rfl (S.resA 3 rfl rfl (by kernel_rfl)) (S.resA 4 rfl rfl (by kernel_rfl)) (res_tmp rfl)) rfl ?_
      exact ⟨rfl, S.below⟩
  | cons r rows =>
    have hh := head_of ho hp hs (m := r) rfl
    cases s with
    | nil => cases hh
    | cons r' s' =>
      cases hh
      obtain ⟨R, o, rfl⟩ : ∃ R o, ad = some ⟨R, o, none⟩ := (S.sl 1 rfl).elim fun F h => h.head (by simp)
      have Hr := Lib.hid (show (r :: rows)[0]? = some r from rfl)
      clear ho hp hs
      have hl : (0 : Int) < (r :: rows).length := by simp
      have hl2 : (((r :: rows).length : Int) == 0) = false := by simp; omega
      generalize hn : (r :: rows).length = n at hl hl2 S
      go_enter Tryz.func100, Tryz.ntmps100
      go_wp2_with first | ((with_reducible apply wps_alloca (E := 76) S); (case hz => exact Tryz.zeroValue76); clear S; intro bz wz S) | ((with_reducible apply wps_alloca (E := 78) S); (case hz => exact Tryz.zeroValue78); clear S; intro bz wz S) | ((with_reducible apply wps_load S 4); (case hx | hi | hu => rfl); (case hT => decide +kernel))
      replace S := S.pick [2, 3, 4, 1, 0] rfl
      simp only [pick, nth] at S
      (refine wp_region_wt (soft := [0, 1, 2, 3, 4, 5, 6, 7, 8, 9, 10, 11, 12, 13]) (L := [_, _, _]) (T := [_, _]) S ?hm ?hB ?_); (case hm => kernel_rfl); (case hB => decide +kernel); clear S
      iterate 14
        (with_reducible apply softs_cons)
        (case hw =>
          (with_reducible apply soft_of); (case hi => rfl)
          intro T wz S
          simp only [List.cons_append, List.nil_append] at S
          go_wp2_with first | ((with_reducible apply wps_loada_el S 1 (hj := Hr.out) (q := 0) (vs := [.int .i64 r.key.at_, .int .i64 r.key.src, .int .i64 r.key.sent, .int .i64 r.key.no]) (m := 4)); (case hx | hi => rfl); (case hn => omega); (case hm | hv => rfl); (case hT => decide +kernel)) | ((with_reducible apply wps_loada_el S 1 (hj := Hr.out) (q := 4) (vs := [.int .i64 r.v.key.at_, .int .i64 r.v.key.src, .int .i64 r.v.key.sent, .int .i64 r.v.key.no, .int .i64 r.v.dst, .int .i64 r.v.kind, .int .i64 r.v.data]) (m := 7)); (case hx | hi => rfl); (case hn => omega); (case hm | hv => rfl); (case hT => decide +kernel)) | ((with_reducible refine tot_done ?ht ?_); (case ht => kernel_rfl)) | ((with_reducible apply wps_load S 2); (case hx | hi | hu => rfl); (case hT => decide +kernel))
          exact ⟨rfl, S⟩)
        (case hs => exact ⟨_, rfl, by kernel_rfl⟩)
      refine softs_nil ?_
      (with_reducible apply W_hard1 (i := 14)); (case hn => rfl); (case hr => decide +kernel)
      intro wz S
      (with_reducible apply hard_of); (case hi => rfl)
      simp only [List.cons_append, List.nil_append] at S
      go_wp2_with first | ((with_reducible apply wps_storea (T := 76) S 3 (vs := [.int .i64 r.key.at_, .int .i64 r.key.src, .int .i64 r.key.sent, .int .i64 r.key.no]) (m := 4)); (case hx | hy | hi | hm | h1 => rfl); (case hn => exact Nat.le_of_ble_eq_true rfl); (case hT => decide +kernel); clear S; intro wz S; simp only [List.set_cons_zero, List.set_cons_succ, setAll, List.setIfInBounds_toArray] at S) | ((with_reducible refine tot_done ?ht ?_); (case ht => kernel_rfl))
      refine ⟨_, S, ?_⟩
      clear S
      (with_reducible apply W_hard1 (i := 15)); (case hn => rfl); (case hr => decide +kernel)
      intro wz S
      (with_reducible apply hard_of); (case hi => rfl)
      simp only [List.cons_append, List.nil_append] at S
      go_wp2_with first | ((with_reducible apply wps_storea (T := 78) S 4 (vs := [.int .i64 r.v.key.at_, .int .i64 r.v.key.src, .int .i64 r.v.key.sent, .int .i64 r.v.key.no, .int .i64 r.v.dst, .int .i64 r.v.kind, .int .i64 r.v.data]) (m := 7)); (case hx | hy | hi | hm | h1 => rfl); (case hn => exact Nat.le_of_ble_eq_true rfl); (case hT => decide +kernel); clear S; intro wz S; simp only [List.set_cons_zero, List.set_cons_succ, setAll, List.setIfInBounds_toArray] at S) | ((with_reducible refine tot_done ?ht ?_); (case ht => kernel_rfl))
      refine ⟨_, S, ?_⟩
      clear S
      (refine W_mid (f := 0) (soft := [16]) rfl ?hB ?_); (case hB => decide +kernel)
      iterate 1
        (with_reducible apply softs_cons)
        (case hw =>
          (with_reducible apply soft_of); (case hi => rfl)
          intro T wz S
          simp only [List.cons_append, List.nil_append] at S
          go_wp2_with first | ((with_reducible refine tot_done ?ht ?_); (case ht => kernel_rfl))
          exact ⟨rfl, S⟩)
        (case hs => exact ⟨_, rfl, by kernel_rfl⟩)
      refine softs_nil ?_
      (with_reducible apply W_done); (case hn => rfl); (case hr => decide +kernel)
      intro wz S
      repeat (first | simp only at S | simp only [pick] at S | simp only [nth] at S | simp only [List.set_cons_succ] at S | simp only [List.set_cons_zero] at S | simp only [List.setIfInBounds_toArray] at S | simp only [setAll] at S | simp only [List.cons_append] at S | simp only [List.nil_append] at S | simp only [List.append_nil] at S)
      all_goals
        go_wp2_with first | ((with_reducible apply wps_loada (T := 78) (k := 7) S 5); (case hx | hi => rfl); (case hk => exact Nat.le_of_ble_eq_true rfl); (case hT => decide +kernel))
        (try simp only [Exit.inBlock, Exit.then]); refine bodyPost_ret (results3 rfl (S.resA 3 rfl rfl (by kernel_rfl)) (S.resA 4 rfl rfl (by kernel_rfl)) (res_tmp rfl)) rfl ?_
        exact ⟨rfl, S.below⟩
end Go.Proofs.YtemgonomenjjaaaGreatDoor
/- The walks of a heap's Pull and Pop. -/
namespace Go.Proofs.YtemgonomenjjaaaGreatDoor
open Go.RowKit Reg Mem

theorem key_nceqs (k l : Key) : (!ceqs k.cells l.cells) = !decide (k = l) := by
  obtain ⟨a1, a2, a3, a4⟩ := k; obtain ⟨b1, b2, b3, b4⟩ := l
  have : ceqs (Key.cells ⟨a1, a2, a3, a4⟩) (Key.cells ⟨b1, b2, b3, b4⟩) = decide ((⟨a1, a2, a3, a4⟩ : Key) = ⟨b1, b2, b3, b4⟩) := by
    simp only [Key.cells, ceqs, ceq, Bool.and_true, Key.mk.injEq]
    rw [Bool.eq_iff_iff]; simp
  rw [this]
def row0 : Row := ⟨⟨0, 0, 0, 0⟩, ⟨⟨0, 0, 0, 0⟩, 0, 0, 0⟩⟩
set_option maxRecDepth 100000 in
theorem zero_Row : zeroIs Tryz.prog 186 11 (Row.cells row0) := ⟨_, .agg #[.int .i64 0, .int .i64 0, .int .i64 0, .int .i64 0, .int .i64 0, .int .i64 0, .int .i64 0, .int .i64 0, .int .i64 0, .int .i64 0, .int .i64 0], rfl, by kernel_rfl, by kernel_rfl, rfl, by decide⟩
theorem sizeRow : ∀ w, (sizeOf 186).run Tryz.prog w = .ok 11 w := fun w => by kernel_rfl
theorem pulled_none {s : List Row} {k : Key} (hk : k ∉ s.map (·.key)) : pulled s k = s := by
  unfold pulled
  rw [List.filter_eq_self]
  intro x hx
  simp only [decide_eq_true_eq]
  exact fun e => hk (List.mem_map.2 ⟨x, hx, e⟩)
set_option maxHeartbeats 2000000 in
set_option maxRecDepth 100000 in
theorem hpull_calls (B : Nat) (s : List Row) (k : Key) (w : World) (F : Nat → Prop) (h : (heapA B s).at_ w F) (hmax : s.length ≤ 4294967296) :
    Calls Tryz.prog 121 #[.pointer (some ⟨B, 0, none⟩), .agg #[.int .i64 k.at_, .int .i64 k.src, .int .i64 k.sent, .int .i64 k.no]] w fun e w' => e = .returned (foundVal s k) ∧ St F w w' [heapA B (pulled s k)] := by
  obtain ⟨M, v, rows, ho, hp, hs, S⟩ := heap_open (St.one w h)
  have hl := hp.length_eq
  clear h
  by_cases hk : k ∈ s.map (·.key)
  · obtain ⟨r, hr, hrk⟩ := List.mem_map.1 hk
    obtain ⟨i, hi, he⟩ := List.mem_iff_getElem.1 (hp.mem_iff.2 hr)
    have hfk := find_key hr hs.nodup
    have hi2 : rows[i]? = some r := by rw [List.getElem?_eq_getElem hi, he]
    have hnd := hs.nodup_of hp
    have hpm := posMap_some hnd hi2
    subst hrk
    obtain ⟨R, cp, rfl, hcp⟩ := own_head 1 S rfl (by omega)
    obtain ⟨m, hm⟩ : ∃ m, rows.length = m + 1 := ⟨rows.length - 1, by omega⟩
    obtain ⟨l, hlm⟩ : ∃ l, rows[m]? = some l := ⟨_, List.getElem?_eq_getElem (by omega)⟩
    have HCUT : Hid ((cutRow rows i).Perm (pulled s r.key)) := Lib.hid ((List.perm_append_right_iff _).1 (((cutRow_perm hi2).trans hp).trans (filter_perm hr hs.nodup).symm))
    have HSP : Hid (HSorted (pulled s r.key)) := Lib.hid (filter_sorted hs _)
    have HPO := Lib.hid (pull_ordered ho hi)
    have HTK : Hid ((rows.set m row0).take m = rows.take m) := Lib.hid (List.take_set_of_le (Nat.le_refl _))
    have HND := Lib.hid hnd
    have HLEN := Lib.hid hm
    have hi3 : (i : Int) < (m : Int) + 1 := by omega
    have hm2 : (m : Int) ≤ 4294967296 := by omega
    have hm0 : (0 : Int) ≤ m := by omega
    have hmc : (m : Int) + 1 ≤ cp := by omega
    rw [hm] at S hcp
    have Hpm := Lib.hid hpm
    have Hi2 := Lib.hid hi2
    have Hfk := Lib.hid hfk
    have Hlm := Lib.hid hlm
    clear hpm hi2 hfk hlm
    clear hr hk ho hp hs hnd he hm
    go_enter Tryz.func121, Tryz.ntmps121
    go_upto_region 7 with first | ((with_reducible apply wps_lookup_ok keyed Tryz.underlying178 (S := S) (i := 2) (zv := .int .i64 0) (v := .int .i64 i) (b := true) (k := r.key)); (case hx | hi => rfl); (case hy => exact (wholeKey _).symm); (case hz => exact Tryz.zeroValue3); (case hv | hb => rw [Hpm.out]; rfl)) | ((with_reducible apply wps_loada_own hcells S 3 (hj := Hi2.out) (q := 4) (vs := [.int .i64 r.v.key.at_, .int .i64 r.v.key.src, .int .i64 r.v.key.sent, .int .i64 r.v.key.no, .int .i64 r.v.dst, .int .i64 r.v.kind, .int .i64 r.v.data]) (m := 7)); (case hx | hi => rfl); (case hn => omega); (case hm | hv => rfl); (case hT => decide +kernel)) | ((with_reducible apply wps_storea (T := 78) S 0 (vs := [.int .i64 r.v.key.at_, .int .i64 r.v.key.src, .int .i64 r.v.key.sent, .int .i64 r.v.key.no, .int .i64 r.v.dst, .int .i64 r.v.kind, .int .i64 r.v.data]) (m := 7)); (case hx | hy | hi | hm | h1 => rfl); (case hn => exact Nat.le_of_ble_eq_true rfl); (case hT => decide +kernel); clear S; intro wz S; simp only [List.set_cons_zero, List.set_cons_succ, setAll, List.setIfInBounds_toArray] at S) | ((with_reducible refine tot_done ?ht ?_); (case ht => kernel_rfl)) | ((with_reducible apply wps_text S); (case hm => kernel_rfl); (case hB => decide +kernel); clear S; intro wz S) | ((with_reducible apply wps_boxa S); (case hx => rfl); clear S; intro bz wz S) | ((with_reducible apply wps_alloca (E := 78) S); (case hz => exact Tryz.zeroValue78); clear S; intro bz wz S) | ((with_reducible apply wps_loada (T := 76) (k := 4) S 1); (case hx | hi => rfl); (case hk => exact Nat.le_of_ble_eq_true rfl); (case hT => decide +kernel)) | ((with_reducible apply wps_load S 4); (case hx | hi | hu => rfl); (case hT => decide +kernel))
    replace S := S.pick [2, 3, 4, 5, 1, 0] rfl
    simp only [pick, nth] at S
    go_upto_region 10 with first | ((with_reducible apply wps_loada_own hcells S 2 (hj := Hlm.out) (q := 0) (vs := [.int .i64 l.key.at_, .int .i64 l.key.src, .int .i64 l.key.sent, .int .i64 l.key.no, .int .i64 l.v.key.at_, .int .i64 l.v.key.src, .int .i64 l.v.key.sent, .int .i64 l.v.key.no, .int .i64 l.v.dst, .int .i64 l.v.kind, .int .i64 l.v.data]) (m := 11)); (case hx | hi => rfl); (case hn => omega); (case hm | hv => rfl); (case hT => decide +kernel)) | ((with_reducible apply wps_delete keyed Tryz.underlying178 S 1 (k := r.key)); (case hx | hi => rfl); (case hy => exact (wholeKey _).symm); clear S; intro wz S; simp only [List.set_cons_succ, List.set_cons_zero] at S) | ((with_reducible apply wps_storea (T := 186) S 0 (vs := [.int .i64 l.key.at_, .int .i64 l.key.src, .int .i64 l.key.sent, .int .i64 l.key.no, .int .i64 l.v.key.at_, .int .i64 l.v.key.src, .int .i64 l.v.key.sent, .int .i64 l.v.key.no, .int .i64 l.v.dst, .int .i64 l.v.kind, .int .i64 l.v.data]) (m := 11)); (case hx | hy | hi | hm | h1 => rfl); (case hn => exact Nat.le_of_ble_eq_true rfl); (case hT => decide +kernel); clear S; intro wz S; simp only [List.set_cons_zero, List.set_cons_succ, setAll, List.setIfInBounds_toArray] at S) | ((with_reducible refine tot_done ?ht ?_); (case ht => kernel_rfl)) | ((with_reducible apply wps_text S); (case hm => kernel_rfl); (case hB => decide +kernel); clear S; intro wz S) | ((with_reducible apply wps_alloca (E := 186) S); (case hz => exact Tryz.zeroValue186); clear S; intro bz wz S) | ((with_reducible apply wps_loada (T := 76) (k := 4) S 0); (case hx | hi => rfl); (case hk => exact Nat.le_of_ble_eq_true rfl); (case hT => decide +kernel)) | ((with_reducible apply wps_load S 3); (case hx | hi | hu => rfl); (case hT => decide +kernel))
    go_upto_region 12 with first | ((with_reducible apply wps_tail Tryz.underlying179 sizeRow (m := 1) (l := m)); (case hx | hlo | hm => rfl); (case h1 => decide); (case h2 => omega)) | ((with_reducible apply wps_clear1 elem_Row hcells hone row0 zero_Row S 3 (m := m)); (case hx | hi | ho => rfl); (case hm => exact HLEN.out); clear S; intro wz S; simp only [List.set_cons_succ, List.set_cons_zero] at S) | ((with_reducible apply wps_cutown hcells Tryz.underlying179 sizeRow S 3 (u := m)); (case hx | hi | hu => rfl); (case h1 => rw [List.length_set, HLEN.out]; omega); clear S; intro S; simp only [List.set_cons_succ, List.set_cons_zero] at S) | ((with_reducible apply wps_store (u := (.slice (some ⟨R, 0, none⟩) m cp)) S 4); (case hx | hy | hi | h1 => rfl); (case hn => exact Nat.le_of_ble_eq_true rfl); (case hT => decide +kernel); clear S; intro wz S; simp only [List.set_cons_succ, List.set_cons_zero, List.setIfInBounds_toArray] at S) | ((with_reducible apply wps_load S 4); (case hx | hi | hu => rfl); (case hT => decide +kernel))
    rw [HTK.out] at S
    by_cases him : i = m
    · subst him
      have hlr : l = r := by have := Hlm.out; rw [Hi2.out] at this; exact (Option.some.inj this).symm
      subst hlr
      have HN := Lib.hid ((key_nceqs l.key l.key).trans (show _ = false by simp))
      have HPE := Lib.hid (posMap_cut_last HND.out HLEN.out Hi2.out)
      have HPL : Hid (hpull rows i = rows.take i) := Lib.hid (by unfold hpull; rw [if_pos HLEN.out.symm, cutRow_last HLEN.out])
      go_wp2_with first | ((with_reducible apply wpList_neq_agg (t := 76) (ks := [.int .i64, .int .i64, .int .i64, .int .i64]) (b := _)); (case hx | hy => rfl); (case hl | ha | hg => kernel_rfl); (case hfx | hfy => rfl); (case hb => exact HN.out)) | ((with_reducible apply wps_storea (T := 78) S 5 (vs := [.int .i64 l.v.key.at_, .int .i64 l.v.key.src, .int .i64 l.v.key.sent, .int .i64 l.v.key.no, .int .i64 l.v.dst, .int .i64 l.v.kind, .int .i64 l.v.data]) (m := 7)); (case hx | hy | hi | hm | h1 => rfl); (case hn => exact Nat.le_of_ble_eq_true rfl); (case hT => decide +kernel); clear S; intro wz S; simp only [List.set_cons_zero, List.set_cons_succ, setAll, List.setIfInBounds_toArray] at S) | ((with_reducible apply wps_loada (T := 76) (k := 4) S 0); (case hx | hi => rfl); (case hk => exact Nat.le_of_ble_eq_true rfl); (case hT => decide +kernel)) | ((with_reducible apply wps_loada (T := 76) (k := 4) S 1); (case hx | hi => rfl); (case hk => exact Nat.le_of_ble_eq_true rfl); (case hT => decide +kernel)) | ((with_reducible apply wps_loada (T := 78) (k := 7) S 6); (case hx | hi => rfl); (case hk => exact Nat.le_of_ble_eq_true rfl); (case hT => decide +kernel))
      (try simp only [Exit.inBlock, Exit.then]); refine bodyPost_ret (results2 rfl (S.resA 5 rfl rfl (by kernel_rfl)) (res_tmp rfl)) rfl ?_
      refine ⟨by rw [foundVal, Hfk.out]; rfl, ?_⟩
      rw [HPE.out] at S
      refine heap_close (S.pick [2, 3, 4] rfl) (by rw [← HPL.out]; exact HPO.out) (by rw [← cutRow_last HLEN.out]; exact HCUT.out) HSP.out
    · have him2 : i < m := by omega
      have hkne : l.key ≠ r.key := fun e => by
        have h1 := posMap_some HND.out Hi2.out
        have h2 := posMap_some HND.out Hlm.out
        rw [e, h1] at h2
        simp only [Option.some.injEq, Value.int.injEq, true_and] at h2
        omega
      have HN := Lib.hid ((key_nceqs l.key r.key).trans (show _ = true by simp [hkne]))
      have HXL : Hid ((cutRow rows i).length = m) := Lib.hid (by have := cutRow_length Hi2.out; have := HLEN.out; omega)
      have HC := Lib.hid (cutRow_set HLEN.out Hlm.out him)
      have HPM := Lib.hid (posMap_cut HND.out HLEN.out Hi2.out Hlm.out him)
      have HNC := Lib.hid (cutRow_nodup Hi2.out HND.out).1
      have HND2 := Lib.hid (nodup_perm (hdown_perm m (cutRow rows i) i) HNC.out)
      have HDL := Lib.hid ((hdown_perm m (cutRow rows i) i).length_eq.trans HXL.out)
      have HHP : Hid (hpull rows i = hup i (hdown m (cutRow rows i) i) i) := Lib.hid (by
        unfold hpull
        rw [if_neg (by have := HLEN.out; omega), show rows.length - 1 = m by have := HLEN.out; omega])
      have HIT : Hid ((rows.take m)[i]? = some r) := Lib.hid (by rw [List.getElem?_take_of_lt him2]; exact Hi2.out)
      clear hkne him
      go_upto_region 15 with first | ((with_reducible apply wpList_neq_agg (t := 76) (ks := [.int .i64, .int .i64, .int .i64, .int .i64]) (b := _)); (case hx | hy => rfl); (case hl | ha | hg => kernel_rfl); (case hfx | hfy => rfl); (case hb => exact HN.out)) | ((with_reducible apply wps_store_owna hcells S 3 (hj := HIT.out) (e' := l) (q := 0) (vs := [.int .i64 l.key.at_, .int .i64 l.key.src, .int .i64 l.key.sent, .int .i64 l.key.no, .int .i64 l.v.key.at_, .int .i64 l.v.key.src, .int .i64 l.v.key.sent, .int .i64 l.v.key.no, .int .i64 l.v.dst, .int .i64 l.v.kind, .int .i64 l.v.data]) (m := 11)); (case hx => rfl); (case hn => omega); (case hi | hy | hm | h1 | he => rfl); (case hq => exact Nat.le_of_ble_eq_true rfl); (case hT => decide +kernel); clear S; intro wz S; simp only [List.set_cons_succ, List.set_cons_zero] at S) | ((with_reducible apply wps_mapUpdate keyed Tryz.underlying178 S 2 (k := l.key) (v := .int .i64 i)); (case hx | hi => rfl); (case hy => exact (wholeKey _).symm); (case hz => rfl); clear S; intro wz S; simp only [List.set_cons_succ, List.set_cons_zero] at S) | ((with_reducible refine tot_done ?ht ?_); (case ht => kernel_rfl)) | ((with_reducible apply wps_text S); (case hm => kernel_rfl); (case hB => decide +kernel); clear S; intro wz S) | ((with_reducible apply wps_loada (T := 76) (k := 4) S 0); (case hx | hi => rfl); (case hk => exact Nat.le_of_ble_eq_true rfl); (case hT => decide +kernel)) | ((with_reducible apply wps_loada (T := 186) (k := 11) S 0); (case hx | hi => rfl); (case hk => exact Nat.le_of_ble_eq_true rfl); (case hT => decide +kernel)) | ((with_reducible apply wps_loada (T := 76) (k := 4) S 1); (case hx | hi => rfl); (case hk => exact Nat.le_of_ble_eq_true rfl); (case hT => decide +kernel)) | ((with_reducible apply wps_load S 4); (case hx | hi | hu => rfl); (case hT => decide +kernel))
      rw [← HC.out, HPM.out] at S
      replace S := S.pick [2, 3, 4, 5, 6] rfl
      simp only [pick, nth] at S
      replace S := rawH_close S
      go_wp2_with first | (go_at_call 131; obtain ⟨Fz, hF, hBk⟩ := S.lend1 0 rfl rfl; refine Calls.mono (down_calls _ _ _ _ _ _ _ hF HNC.out (by rw [HXL.out]; exact him2) (by rw [HXL.out]; omega)) ?_; rintro e wz ⟨rfl, T⟩; rw [HXL.out] at T; replace S := hBk _ _ rfl T; clear hBk hF T; simp only [List.set_cons_zero] at S) | (go_at_call 120; obtain ⟨Fz, hF, hBk⟩ := S.lend1 0 rfl rfl; refine Calls.mono (up_calls _ _ _ _ _ _ _ hF HND2.out (by rw [HDL.out]; exact him2) (by rw [HDL.out]; omega)) ?_; rintro e wz ⟨rfl, T⟩; replace S := hBk _ _ rfl T; clear hBk hF T; simp only [List.set_cons_zero] at S) | ((with_reducible apply wps_storea (T := 78) S 1 (vs := [.int .i64 r.v.key.at_, .int .i64 r.v.key.src, .int .i64 r.v.key.sent, .int .i64 r.v.key.no, .int .i64 r.v.dst, .int .i64 r.v.kind, .int .i64 r.v.data]) (m := 7)); (case hx | hy | hi | hm | h1 => rfl); (case hn => exact Nat.le_of_ble_eq_true rfl); (case hT => decide +kernel); clear S; intro wz S; simp only [List.set_cons_zero, List.set_cons_succ, setAll, List.setIfInBounds_toArray] at S) | ((with_reducible apply wps_loada (T := 78) (k := 7) S 2); (case hx | hi => rfl); (case hk => exact Nat.le_of_ble_eq_true rfl); (case hT => decide +kernel))
      (try simp only [Exit.inBlock, Exit.then]); refine bodyPost_ret (results2 rfl (S.resA 1 rfl rfl (by kernel_rfl)) (res_tmp rfl)) rfl ?_
      replace S := S.pick [0] rfl
      refine ⟨by rw [foundVal, Hfk.out]; rfl, ?_⟩
      refine heap_raw S (by rw [← HHP.out]; exact HPO.out) ?_ HSP.out
      exact ((hup_perm _ _ _).trans (hdown_perm _ _ _)).trans HCUT.out
  · have hpm := posMap_none (fun h => hk ((key_perm hp k).1 h))
    have hfn := find_none hk
    have hpe := pulled_none hk
    obtain ⟨ad, cp, rfl, _⟩ := (S.ownsl hcells 1 rfl).elim fun _ h => h.form
    have Hpm := Lib.hid hpm
    have Hfn := Lib.hid hfn
    have Hpe := Lib.hid hpe
    clear hpm hfn hpe
    clear hk
    go_enter Tryz.func121, Tryz.ntmps121
    go_upto_region 1 with first | ((with_reducible apply wps_boxa S); (case hx => rfl); clear S; intro bz wz S) | ((with_reducible apply wps_alloca (E := 78) S); (case hz => exact Tryz.zeroValue78); clear S; intro bz wz S)
    replace S := S.pick [1, 2, 3, 4, 0] rfl
    simp only [pick, nth] at S
    go_wp2_with first | ((with_reducible apply wps_lookup_ok keyed Tryz.underlying178 (S := S) (i := 1) (zv := .int .i64 0) (v := .int .i64 0) (b := false) (k := k)); (case hx | hi => rfl); (case hy => exact (wholeKey _).symm); (case hz => exact Tryz.zeroValue3); (case hv | hb => rw [Hpm.out]; rfl)) | ((with_reducible apply wps_storea (T := 78) S 4 (vs := [.int .i64 0, .int .i64 0, .int .i64 0, .int .i64 0, .int .i64 0, .int .i64 0, .int .i64 0]) (m := 7)); (case hx | hy | hi | hm | h1 => rfl); (case hn => exact Nat.le_of_ble_eq_true rfl); (case hT => decide +kernel); clear S; intro wz S; simp only [List.set_cons_zero, List.set_cons_succ, setAll, List.setIfInBounds_toArray] at S) | ((with_reducible refine tot_done ?ht ?_); (case ht => kernel_rfl)) | ((with_reducible apply wps_text S); (case hm => kernel_rfl); (case hB => decide +kernel); clear S; intro wz S) | ((with_reducible apply wps_loada (T := 76) (k := 4) S 0); (case hx | hi => rfl); (case hk => exact Nat.le_of_ble_eq_true rfl); (case hT => decide +kernel)) | ((with_reducible apply wps_load S 3); (case hx | hi | hu => rfl); (case hT => decide +kernel)) | ((with_reducible apply wps_loada (T := 78) (k := 7) S 4); (case hx | hi => rfl); (case hk => exact Nat.le_of_ble_eq_true rfl); (case hT => decide +kernel))
    (try simp only [Exit.inBlock, Exit.then]); refine bodyPost_ret (results2 rfl (S.resA 4 rfl rfl (by kernel_rfl)) (res_tmp rfl)) rfl ?_
    refine ⟨by rw [foundVal, Hfn.out]; rfl, ?_⟩
    rw [Hpe.out]
    exact heap_close (S.pick [1, 2, 3] rfl) ho hp hs
end Go.Proofs.YtemgonomenjjaaaGreatDoor

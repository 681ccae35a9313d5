import Derived.Test.YtcbdacmdmaoegaaHe2
import Derived.Deep.Cut
/- A heap as a thing of the state; New, Len, Push, Get, First. -/
namespace Go.Proofs.Ytcbdacmdmaoegaa
open Go.RowKit Reg Mem

/-- A heap of these rows, in order. -/
def heapA (B : Nat) (s : List Row) : Asn := exs false fun p : Nat × Value × List Row => sep false (pur (Ordered p.2.2 ∧ p.2.2.Perm s ∧ HSorted s)) (rawH B p.1 p.2.1 p.2.2)
theorem heap_open {G : Nat → Prop} {w0 w : World} {L : List Asn} {B : Nat} {s : List Row} (S : St G w0 w (heapA B s :: L)) :
    ∃ M v rows, Ordered rows ∧ rows.Perm s ∧ HSorted s ∧ St G w0 w (MapA false Try.prog 28 Key.cells M (posMap rows) :: Own 90 Row.cells 5 v rows :: Blk false B #[v, .map (some M)] 85 :: L) := by
  obtain ⟨⟨M, v, rows⟩, S⟩ := S.open_exs (fun _ => rfl)
  obtain ⟨⟨h1, h2, h3⟩, S⟩ := (S.open_sep rfl rfl).open_pur
  exact ⟨M, v, rows, h1, h2, h3, rawH_open S⟩
theorem heap_raw {G : Nat → Prop} {w0 w : World} {L : List Asn} {B M : Nat} {v : Value} {rows s : List Row} (S : St G w0 w (rawH B M v rows :: L)) (h1 : Ordered rows) (h2 : rows.Perm s) (h3 : HSorted s) : St G w0 w (heapA B s :: L) :=
  ((S.close_pur ⟨h1, h2, h3⟩).close_sep rfl rfl).close_exs (A := fun p : Nat × Value × List Row => sep false (pur (Ordered p.2.2 ∧ p.2.2.Perm s ∧ HSorted s)) (rawH B p.1 p.2.1 p.2.2)) (M, v, rows) rfl
theorem heap_close {G : Nat → Prop} {w0 w : World} {L : List Asn} {B M : Nat} {v : Value} {rows s : List Row}
    (S : St G w0 w (MapA false Try.prog 28 Key.cells M (posMap rows) :: Own 90 Row.cells 5 v rows :: Blk false B #[v, .map (some M)] 85 :: L)) (h1 : Ordered rows) (h2 : rows.Perm s) (h3 : HSorted s) : St G w0 w (heapA B s :: L) := heap_raw (rawH_close S) h1 h2 h3
theorem posMap_nil : posMap [] = fun _ => none := by funext k; rfl
theorem hnew_calls (w : World) : Calls Try.prog 15 #[] w fun e w' => ∃ B, e = .returned (.pointer (some ⟨B, 0, none⟩)) ∧ St (fun _ => False) w w' [heapA B []] := by
  have S := St.init (fun _ => False) w
  go_enter Try.func15, Try.ntmps15
  go_wp2_with first
    | ((with_reducible apply wps_makeMap (P := Try.prog) (K := 28) S Key.cells); clear S; intro M wz S)
    | ((with_reducible apply wps_store (u := (.map (some M))) S 0); (case hx => rfl); (case hy => rfl); (case hi => rfl); (case hT => decide +kernel); (case h1 => rfl); (case hn => exact Nat.le_of_ble_eq_true rfl); clear S; intro wz S; simp only [List.set_cons_succ, List.set_cons_zero, List.setIfInBounds_toArray] at S)
    | ((with_reducible refine tot_done ?ht ?_); (case ht => kernel_rfl))
    | ((with_reducible apply wps_boxa S); (case hx => rfl); clear S; intro bz wz S)
    | ((with_reducible apply wps_box1 (v := .int _ _) S); (case hx => rfl); (case h1 => rfl); clear S; intro bz wz S)
    | ((with_reducible apply wps_box1 (v := .bool _) S); (case hx => rfl); (case h1 => rfl); clear S; intro bz wz S)
    | ((with_reducible apply wps_box1 (v := .slice _ _ _) S); (case hx => rfl); (case h1 => rfl); clear S; intro bz wz S)
    | ((with_reducible apply wps_box1 (v := .pointer _) S); (case hx => rfl); (case h1 => rfl); clear S; intro bz wz S)
    | ((with_reducible apply wps_box1 (v := .map _) S); (case hx => rfl); (case h1 => rfl); clear S; intro bz wz S)
    | ((with_reducible apply wps_box1 (v := .string _) S); (case hx => rfl); (case h1 => rfl); clear S; intro bz wz S)
    | ((with_reducible apply wps_box1 (v := .func _ _ _) S); (case hx => rfl); (case h1 => rfl); clear S; intro bz wz S)
  go_ret
  refine ⟨_, rfl, ?_⟩
  have S2 := (S.nil 90 Row.cells 5).pick [2, 0, 1] rfl
  simp only [pick, nth] at S2
  rw [← posMap_nil] at S2
  exact heap_close S2 (fun i r p _ hr => by simp at hr) (.refl _) List.Pairwise.nil
theorem hlen_calls (B : Nat) (s : List Row) (w : World) (F : Nat → Prop) (h : (heapA B s).at_ w F) :
    Calls Try.prog 29 #[.pointer (some ⟨B, 0, none⟩)] w fun e w' => e = .returned (.int .i64 s.length) ∧ Below w.heap.size w w' := by
  obtain ⟨M, v, rows, ho, hp, hs, S⟩ := heap_open (St.one w h)
  obtain ⟨ad, cp, rfl, _⟩ := (S.ownsl hcells 1 rfl).elim fun _ h => h.form
  have hl := hp.length_eq
  go_enter Try.func29, Try.ntmps29
  go_wp2_with first
    | ((with_reducible refine tot_done ?ht ?_); (case ht => kernel_rfl))
    | ((with_reducible apply wps_load S 0); (case hx => rfl); (case hi => rfl); (case hT => decide +kernel); (case hu => rfl))
    | ((with_reducible apply wps_load S 1); (case hx => rfl); (case hi => rfl); (case hT => decide +kernel); (case hu => rfl))
    | ((with_reducible apply wps_load S 2); (case hx => rfl); (case hi => rfl); (case hT => decide +kernel); (case hu => rfl))
    | ((with_reducible apply wps_load S 3); (case hx => rfl); (case hi => rfl); (case hT => decide +kernel); (case hu => rfl))
  go_ret
  exact ⟨ret_int (by omega), Below.refl _ _⟩
def errnoT : Int → Value := fun e => .int .i64 e
set_option maxHeartbeats 1000000 in
set_option maxRecDepth 100000 in
theorem hpush_calls (B : Nat) (s : List Row) (k : Key) (x : Thing) (w : World) (F : Nat → Prop) (h : (heapA B s).at_ w F) (hmax : s.length < 4294967296) :
    Calls Try.prog 21 #[.pointer (some ⟨B, 0, none⟩), .agg #[.int .i64 k.at_, .int .i64 k.src, .int .i64 k.sent, .int .i64 k.no], .int .i64 x] w fun e w' => e = .returned (.int .i64 (PushAns s ⟨k, x⟩)) ∧ St F w w' [heapA B (pushed s ⟨k, x⟩)] := by
  obtain ⟨M, v, rows, ho, hp, hs, S⟩ := heap_open (St.one w h)
  obtain ⟨ad, cp, rfl, _⟩ := (S.ownsl hcells 1 rfl).elim fun _ h => h.form
  have hl := hp.length_eq
  have hl2 : rows.length < 4294967296 := by omega
  have hl3 : (rows.length : Int) < 4294967296 := by omega
  have Ho := Lib.hid ho
  have Hp := Lib.hid hp
  have Hs := Lib.hid hs
  have Hl := Lib.hid hl
  clear ho hp hs hl
  clear h
  by_cases hk : k ∈ s.map (·.key)
  · obtain ⟨r0, hr0, hk0⟩ := List.mem_map.1 ((key_perm Hp.out k).2 hk)
    obtain ⟨n, hn, he⟩ := List.mem_iff_getElem.1 hr0
    have hpm := posMap_some (Hs.out.nodup_of Hp.out) (i := n) (r := r0) (by rw [List.getElem?_eq_getElem hn, he])
    rw [hk0] at hpm
    have Hpm := Lib.hid hpm
    have Hk := Lib.hid hk
    clear hpm hk
    clear hr0 hk0 he hn
    go_enter Try.func21, Try.ntmps21
    go_wp2_with first
      | ((with_reducible apply wps_lookup_ok keyed Try.underlying82 (S := S) (i := 1) (zv := .int .i64 0) (v := .int .i64 n) (b := true) (k := k)); (case hx => rfl); (case hi => rfl); (case hy => exact (wholeKey _).symm); (case hz => exact Try.zeroValue3); (case hv => rw [Hpm.out]; rfl); (case hb => rw [Hpm.out]; rfl))
      | ((with_reducible refine tot_done ?ht ?_); (case ht => kernel_rfl))
      | ((with_reducible apply wps_text S); (case hm => kernel_rfl); (case hB => decide +kernel); clear S; intro wz S)
      | ((with_reducible apply wps_boxa S); (case hx => rfl); clear S; intro bz wz S)
      | ((with_reducible apply wps_box1 (v := .int _ _) S); (case hx => rfl); (case h1 => rfl); clear S; intro bz wz S)
      | ((with_reducible apply wps_box1 (v := .bool _) S); (case hx => rfl); (case h1 => rfl); clear S; intro bz wz S)
      | ((with_reducible apply wps_box1 (v := .slice _ _ _) S); (case hx => rfl); (case h1 => rfl); clear S; intro bz wz S)
      | ((with_reducible apply wps_box1 (v := .pointer _) S); (case hx => rfl); (case h1 => rfl); clear S; intro bz wz S)
      | ((with_reducible apply wps_box1 (v := .map _) S); (case hx => rfl); (case h1 => rfl); clear S; intro bz wz S)
      | ((with_reducible apply wps_box1 (v := .string _) S); (case hx => rfl); (case h1 => rfl); clear S; intro bz wz S)
      | ((with_reducible apply wps_box1 (v := .func _ _ _) S); (case hx => rfl); (case h1 => rfl); clear S; intro bz wz S)
      | ((with_reducible apply wps_load S 0); (case hx => rfl); (case hi => rfl); (case hT => decide +kernel); (case hu => rfl))
      | ((with_reducible apply wps_loada (T := 28) (k := 4) S 0); (case hx => rfl); (case hi => rfl); (case hT => decide +kernel); (case hk => exact Nat.le_of_ble_eq_true rfl))
      | ((with_reducible apply wps_load S 1); (case hx => rfl); (case hi => rfl); (case hT => decide +kernel); (case hu => rfl))
      | ((with_reducible apply wps_loada (T := 28) (k := 4) S 1); (case hx => rfl); (case hi => rfl); (case hT => decide +kernel); (case hk => exact Nat.le_of_ble_eq_true rfl))
      | ((with_reducible apply wps_load S 2); (case hx => rfl); (case hi => rfl); (case hT => decide +kernel); (case hu => rfl))
      | ((with_reducible apply wps_loada (T := 28) (k := 4) S 2); (case hx => rfl); (case hi => rfl); (case hT => decide +kernel); (case hk => exact Nat.le_of_ble_eq_true rfl))
      | ((with_reducible apply wps_load S 3); (case hx => rfl); (case hi => rfl); (case hT => decide +kernel); (case hu => rfl))
      | ((with_reducible apply wps_loada (T := 28) (k := 4) S 3); (case hx => rfl); (case hi => rfl); (case hT => decide +kernel); (case hk => exact Nat.le_of_ble_eq_true rfl))
    go_ret
    refine ⟨by rw [PushAns, if_pos Hk.out]; rfl, ?_⟩
    rw [pushed, if_pos Hk.out]
    exact heap_close (S.pick [1, 2, 3] rfl) Ho.out Hp.out Hs.out
  · have hk2 : k ∉ rows.map (·.key) := fun h => hk ((key_perm Hp.out k).1 h)
    have hpm := posMap_none hk2
    have HPU := Lib.hid (posMap_push (rows := rows) (r := ⟨k, x⟩) hk2 (Hs.out.nodup_of Hp.out))
    have HND := Lib.hid (nodup_push (r := ⟨k, x⟩) hk2 (Hs.out.nodup_of Hp.out))
    have Hpm := Lib.hid hpm
    have Hk := Lib.hid hk
    have Hk2 := Lib.hid hk2
    clear hpm hk hk2
    go_enter Try.func21, Try.ntmps21
    go_upto_region 7 with first
      | ((with_reducible apply wps_lookup_ok keyed Try.underlying82 (S := S) (i := 1) (zv := .int .i64 0) (v := .int .i64 0) (b := false) (k := k)); (case hx => rfl); (case hi => rfl); (case hy => exact (wholeKey _).symm); (case hz => exact Try.zeroValue3); (case hv => rw [Hpm.out]; rfl); (case hb => rw [Hpm.out]; rfl))
      | ((with_reducible apply wps_build1a (T := 83) (E := 90) S); (case hx => rfl); (case hr => intro w; kernel_rfl); clear S; intro bz wz S)
      | ((with_reducible apply wps_append1 elem_Row hcells hone (by decide) S 3 (j := 0) (e := ⟨k,x⟩)); (case hx => rfl); (case hy => rfl); (case hi => rfl); (case hj => rfl); (case he => rfl); (case hl => first | omega | (simp; omega)); clear S; intro az nz cz wz hnz S; simp only [List.set_cons_succ, List.set_cons_zero] at S)
      | ((with_reducible apply wps_store (u := (.slice az nz cz)) S 4); (case hx => rfl); (case hy => rfl); (case hi => rfl); (case hT => decide +kernel); (case h1 => rfl); (case hn => exact Nat.le_of_ble_eq_true rfl); clear S; intro wz S; simp only [List.set_cons_succ, List.set_cons_zero, List.setIfInBounds_toArray] at S)
      | ((with_reducible refine tot_done ?ht ?_); (case ht => kernel_rfl))
      | ((with_reducible apply wps_text S); (case hm => kernel_rfl); (case hB => decide +kernel); clear S; intro wz S)
      | ((with_reducible apply wps_boxa S); (case hx => rfl); clear S; intro bz wz S)
      | ((with_reducible apply wps_box1 (v := .int _ _) S); (case hx => rfl); (case h1 => rfl); clear S; intro bz wz S)
      | ((with_reducible apply wps_box1 (v := .bool _) S); (case hx => rfl); (case h1 => rfl); clear S; intro bz wz S)
      | ((with_reducible apply wps_box1 (v := .slice _ _ _) S); (case hx => rfl); (case h1 => rfl); clear S; intro bz wz S)
      | ((with_reducible apply wps_box1 (v := .pointer _) S); (case hx => rfl); (case h1 => rfl); clear S; intro bz wz S)
      | ((with_reducible apply wps_box1 (v := .map _) S); (case hx => rfl); (case h1 => rfl); clear S; intro bz wz S)
      | ((with_reducible apply wps_box1 (v := .string _) S); (case hx => rfl); (case h1 => rfl); clear S; intro bz wz S)
      | ((with_reducible apply wps_box1 (v := .func _ _ _) S); (case hx => rfl); (case h1 => rfl); clear S; intro bz wz S)
      | ((with_reducible apply wps_load S 0); (case hx => rfl); (case hi => rfl); (case hT => decide +kernel); (case hu => rfl))
      | ((with_reducible apply wps_loada (T := 28) (k := 4) S 0); (case hx => rfl); (case hi => rfl); (case hT => decide +kernel); (case hk => exact Nat.le_of_ble_eq_true rfl))
      | ((with_reducible apply wps_load S 1); (case hx => rfl); (case hi => rfl); (case hT => decide +kernel); (case hu => rfl))
      | ((with_reducible apply wps_loada (T := 28) (k := 4) S 1); (case hx => rfl); (case hi => rfl); (case hT => decide +kernel); (case hk => exact Nat.le_of_ble_eq_true rfl))
      | ((with_reducible apply wps_load S 2); (case hx => rfl); (case hi => rfl); (case hT => decide +kernel); (case hu => rfl))
      | ((with_reducible apply wps_loada (T := 28) (k := 4) S 2); (case hx => rfl); (case hi => rfl); (case hT => decide +kernel); (case hk => exact Nat.le_of_ble_eq_true rfl))
      | ((with_reducible apply wps_load S 3); (case hx => rfl); (case hi => rfl); (case hT => decide +kernel); (case hu => rfl))
      | ((with_reducible apply wps_loada (T := 28) (k := 4) S 3); (case hx => rfl); (case hi => rfl); (case hT => decide +kernel); (case hk => exact Nat.le_of_ble_eq_true rfl))
    obtain rfl : nz = rows.length + 1 := hnz.out
    replace S := S.pick [2, 3, 4, 1] rfl
    simp only [pick, nth] at S
    go_wp2_with first
      | ((with_reducible apply wps_mapUpdate keyed Try.underlying82 S 0 (k := k) (v := .int .i64 rows.length)); (case hx => rfl); (case hi => rfl); (case hy => exact (wholeKey _).symm); (case hz => rfl); clear S; intro wz S; simp only [List.set_cons_zero] at S)
      | ((with_reducible refine tot_done ?ht ?_); (case ht => kernel_rfl))
      | ((with_reducible apply wps_text S); (case hm => kernel_rfl); (case hB => decide +kernel); clear S; intro wz S)
      | ((with_reducible apply wps_load S 0); (case hx => rfl); (case hi => rfl); (case hT => decide +kernel); (case hu => rfl))
      | ((with_reducible apply wps_loada (T := 28) (k := 4) S 0); (case hx => rfl); (case hi => rfl); (case hT => decide +kernel); (case hk => exact Nat.le_of_ble_eq_true rfl))
      | ((with_reducible apply wps_load S 1); (case hx => rfl); (case hi => rfl); (case hT => decide +kernel); (case hu => rfl))
      | ((with_reducible apply wps_loada (T := 28) (k := 4) S 1); (case hx => rfl); (case hi => rfl); (case hT => decide +kernel); (case hk => exact Nat.le_of_ble_eq_true rfl))
      | ((with_reducible apply wps_load S 2); (case hx => rfl); (case hi => rfl); (case hT => decide +kernel); (case hu => rfl))
      | ((with_reducible apply wps_loada (T := 28) (k := 4) S 2); (case hx => rfl); (case hi => rfl); (case hT => decide +kernel); (case hk => exact Nat.le_of_ble_eq_true rfl))
      | ((with_reducible apply wps_load S 3); (case hx => rfl); (case hi => rfl); (case hT => decide +kernel); (case hu => rfl))
      | ((with_reducible apply wps_loada (T := 28) (k := 4) S 3); (case hx => rfl); (case hi => rfl); (case hT => decide +kernel); (case hk => exact Nat.le_of_ble_eq_true rfl))
    rw [HPU.out] at S
    replace S := rawH_close S
    go_wp2_with first
      | (go_at_call 45; obtain ⟨Fz, hF, hBk⟩ := S.lend1 0 rfl rfl; refine Calls.mono (up_calls _ _ _ _ _ _ _ hF HND.out (by simp) (by simp; omega)) ?_; rintro e wz ⟨rfl, T⟩; replace S := hBk _ _ rfl T; clear hBk hF T; simp only [List.set_cons_zero] at S)
      | ((with_reducible refine tot_done ?ht ?_); (case ht => kernel_rfl))
      | ((with_reducible apply wps_text S); (case hm => kernel_rfl); (case hB => decide +kernel); clear S; intro wz S)
      | ((with_reducible apply wps_load S 0); (case hx => rfl); (case hi => rfl); (case hT => decide +kernel); (case hu => rfl))
      | ((with_reducible apply wps_loada (T := 28) (k := 4) S 0); (case hx => rfl); (case hi => rfl); (case hT => decide +kernel); (case hk => exact Nat.le_of_ble_eq_true rfl))
      | ((with_reducible apply wps_load S 1); (case hx => rfl); (case hi => rfl); (case hT => decide +kernel); (case hu => rfl))
      | ((with_reducible apply wps_loada (T := 28) (k := 4) S 1); (case hx => rfl); (case hi => rfl); (case hT => decide +kernel); (case hk => exact Nat.le_of_ble_eq_true rfl))
      | ((with_reducible apply wps_load S 2); (case hx => rfl); (case hi => rfl); (case hT => decide +kernel); (case hu => rfl))
      | ((with_reducible apply wps_loada (T := 28) (k := 4) S 2); (case hx => rfl); (case hi => rfl); (case hT => decide +kernel); (case hk => exact Nat.le_of_ble_eq_true rfl))
      | ((with_reducible apply wps_load S 3); (case hx => rfl); (case hi => rfl); (case hT => decide +kernel); (case hu => rfl))
      | ((with_reducible apply wps_loada (T := 28) (k := 4) S 3); (case hx => rfl); (case hi => rfl); (case hT => decide +kernel); (case hk => exact Nat.le_of_ble_eq_true rfl))
    go_ret
    refine ⟨by rw [PushAns, if_neg Hk.out]; rfl, ?_⟩
    rw [pushed, if_neg Hk.out]
    refine (heap_raw S (push_ordered Ho.out _) ?_ (ins_sorted _ _ Hs.out Hk.out)).pick [0] rfl
    refine (hup_perm _ _ _).trans (List.Perm.trans ?_ (ins_perm _ _).symm)
    exact (List.perm_append_singleton _ _).trans (Hp.out.cons _)
end Go.Proofs.Ytcbdacmdmaoegaa

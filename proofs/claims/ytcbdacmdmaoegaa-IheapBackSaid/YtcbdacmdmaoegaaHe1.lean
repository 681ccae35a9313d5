import Derived.Test.YtcbdacmdmaoegaaHe0
import Derived.Test.YtcbdacmdmaoegaaSt2
import Derived.Test.YtcbdacmdmaoegaaOrd
/- The walks of a heap's inner functions: ahead, swap, up, down, and New. -/
namespace Go.Proofs.Ytcbdacmdmaoegaa
open Go.RowKit Reg Mem

def Row.cells (r : Row) : List Value := (#[.int .i64 r.key.at_, .int .i64 r.key.src, .int .i64 r.key.sent, .int .i64 r.key.no, .int .i64 r.v]).toList
theorem hcells : ∀ r : Row, r.cells.length = 5 := fun _ => rfl
theorem hone : ∀ r : Row, ∀ u ∈ r.cells, u.oneCell' = true := fun _ => by simp [Row.cells, Value.oneCell']
set_option maxRecDepth 100000 in
theorem elem_Row : Elem Try.prog 83 90 5 40 := ⟨_, .agg #[.int .i64 0, .int .i64 0, .int .i64 0, .int .i64 0, .int .i64 0], Try.underlying83, rfl, by kernel_rfl, by kernel_rfl, by kernel_rfl, by kernel_rfl, by omega⟩
def keyed : Keyed Try.prog 28 Key.cells :=
  ⟨[.int .i64, .int .i64, .int .i64, .int .i64], by kernel_rfl, fun _ => rfl, fun a b => by
    obtain ⟨a1, a2, a3, a4⟩ := a; obtain ⟨b1, b2, b3, b4⟩ := b
    simp only [Key.cells, ceqs, ceq, Bool.and_true, Key.mk.injEq]
    rw [Bool.eq_iff_iff]; simp⟩
theorem wholeKey (k : Key) : whole Try.prog 28 (Key.cells k) = .agg #[.int .i64 k.at_, .int .i64 k.src, .int .i64 k.sent, .int .i64 k.no] := by kernel_rfl
/-- A heap's blocks. -/
def rawH (B M : Nat) (v : Value) (rows : List Row) : Asn := sep false (Blk false B #[v, .map (some M)] 85) (sep false (MapA false Try.prog 28 Key.cells M (posMap rows)) (Own 90 Row.cells 5 v rows))
theorem Mem.St.swap2 {G : Nat → Prop} {w0 w : World} {L : List Asn} {A B : Asn} (S : St G w0 w (A :: B :: L)) : St G w0 w (B :: A :: L) := by
  obtain ⟨Fs, hf, hd⟩ := S.ex
  have g : ∀ i : Nat, ∀ X : Asn, (B :: A :: L)[i]? = some X → (A :: B :: L)[(match i with | 0 => 1 | 1 => 0 | i + 2 => i + 2 : Nat)]? = some X := by
    intro i X h
    match i with
    | 0 => exact h
    | 1 => exact h
    | i + 2 => exact h
  refine ⟨S.keep, fun i => Fs (match i with | 0 => 1 | 1 => 0 | i + 2 => i + 2 : Nat), fun i X hi => hf _ X (g i X hi), fun i j X Y hij hi hj => ?_⟩
  have hi' := g i X hi
  have hj' := g j Y hj
  match i, j, hij with
  | 0, 1, _ =>
    rcases hd 0 1 Y X (by omega) hj' hi' with ⟨e1, e2⟩ | e
    · exact .inl ⟨e2, e1⟩
    · exact .inr fun x hx hx' => e x hx' hx
  | 0, j + 2, _ => exact hd 1 (j + 2) X Y (by omega) hi' hj'
  | 1, j + 2, _ => exact hd 0 (j + 2) X Y (by omega) hi' hj'
  | i + 2, j + 2, h => exact hd (i + 2) (j + 2) X Y (by omega) hi' hj'
  | 0, 0, h => omega
  | i + 1, 0, h => omega
  | i + 1, 1, h => omega
theorem rawH_open {G : Nat → Prop} {w0 w : World} {L : List Asn} {B M : Nat} {v : Value} {rows : List Row} (S : St G w0 w (rawH B M v rows :: L)) :
    St G w0 w (MapA false Try.prog 28 Key.cells M (posMap rows) :: Own 90 Row.cells 5 v rows :: Blk false B #[v, .map (some M)] 85 :: L) := ((S.open_sep rfl rfl).swap2).open_sep rfl rfl
theorem rawH_st {B M : Nat} {v : Value} {rows : List Row} {w : World} {F : Nat → Prop} (h : (rawH B M v rows).at_ w F) :
    St F w w [MapA false Try.prog 28 Key.cells M (posMap rows), Own 90 Row.cells 5 v rows, Blk false B #[v, .map (some M)] 85] := rawH_open (St.one w h)
theorem rawH_close {G : Nat → Prop} {w0 w : World} {L : List Asn} {B M : Nat} {v : Value} {rows : List Row} (S : St G w0 w (MapA false Try.prog 28 Key.cells M (posMap rows) :: Own 90 Row.cells 5 v rows :: Blk false B #[v, .map (some M)] 85 :: L)) :
    St G w0 w (rawH B M v rows :: L) := (S.close_sep rfl rfl).swap2.close_sep rfl rfl
/-- A heap that is only read. -/
theorem rawR_st {B M : Nat} {v : Value} {rows : List Row} {w : World} {F : Nat → Prop} (h : (rawH B M v rows).at_ w F) :
    St (fun _ => False) w w [MapA true Try.prog 28 Key.cells M (posMap rows), Sl true Row.cells 5 v rows, Blk true B #[v, .map (some M)] 85] := by
  obtain ⟨F1, F2, h1, ⟨F3, F4, h3, h4, _, _⟩, _, _⟩ := h
  have S0 : St (fun _ => False) w w [Blk true B #[v, .map (some M)] 85] := (St.init _ w).share rfl rfl h1
  have S1 := S0.share (A := Sl true Row.cells 5 v rows) rfl rfl (own_sl (sh := true) hcells h4)
  exact S1.share (A := MapA true Try.prog 28 Key.cells M (posMap rows)) rfl rfl h3
theorem own_head {G : Nat → Prop} {w0 w : World} {L : List Asn} {v : Value} {rows : List Row} (i : Nat) (S : St G w0 w L) (hi : L[i]? = some (Own 90 Row.cells 5 v rows)) (h0 : 0 < rows.length) : ∃ R c, v = .slice (some ⟨R, 0, none⟩) rows.length c ∧ rows.length ≤ c := by
  obtain ⟨F1, h1, _⟩ := S.get hi
  obtain ⟨R, c, cur, e, hO⟩ := h1.some (by omega)
  exact ⟨R, c, e, hO.le⟩
theorem ahead_calls (B M i j : Nat) (v : Value) (rows : List Row) (r r' : Row) (w : World) (F : Nat → Prop) (h : (rawH B M v rows).at_ w F) (hi : rows[i]? = some r) (hj : rows[j]? = some r') :
    Calls Try.prog 55 #[.pointer (some ⟨B, 0, none⟩), .int .i64 i, .int .i64 j] w fun e w' => e = .returned (.bool (r.key.lt r'.key)) ∧ Below w.heap.size w w' := by
  have S := rawR_st h
  have hi1 : (i : Int) < rows.length := by have := (List.getElem?_eq_some_iff.1 hi).1; omega
  have hj1 : (j : Int) < rows.length := by have := (List.getElem?_eq_some_iff.1 hj).1; omega
  obtain ⟨ad, cp, rfl, _⟩ := (S.sl 1 rfl).elim fun _ h => h.form
  obtain ⟨R, o, rfl⟩ : ∃ R o, ad = some ⟨R, o, none⟩ := (S.sl 1 rfl).elim fun F h => h.head (by omega)
  have Hi := Lib.hid hi
  have Hj := Lib.hid hj
  clear hi hj
  clear h
  go_enter Try.func55, Try.ntmps55
  go_wp2_with first
    | ((with_reducible apply wps_loada_el S 1 (hj := Hi.out) (q := 0) (vs := [.int .i64 r.key.at_, .int .i64 r.key.src, .int .i64 r.key.sent, .int .i64 r.key.no]) (m := 4)); (case hx => rfl); (case hT => decide +kernel); (case hi => rfl); (case hn => omega); (case hm => rfl); (case hv => rfl))
    | ((with_reducible apply wps_loada_el S 1 (hj := Hj.out) (q := 0) (vs := [.int .i64 r'.key.at_, .int .i64 r'.key.src, .int .i64 r'.key.sent, .int .i64 r'.key.no]) (m := 4)); (case hx => rfl); (case hT => decide +kernel); (case hi => rfl); (case hn => omega); (case hm => rfl); (case hv => rfl))
    | (go_at_call 32; refine Calls.mono (compare_calls _ _ _ _ _ _ _ _ _) ?_; rintro e wz ⟨rfl, hE⟩; replace S := S.ext (Keep.of_below hE); clear hE)
    | ((with_reducible refine tot_done ?ht ?_); (case ht => kernel_rfl))
    | ((with_reducible apply wps_text S); (case hm => kernel_rfl); (case hB => decide +kernel); clear S; intro wz S)
    | ((with_reducible apply wps_load S 0); (case hx => rfl); (case hi => rfl); (case hT => decide +kernel); (case hu => rfl))
    | ((with_reducible apply wps_loada (T := 28) (k := 4) S 0); (case hx => rfl); (case hi => rfl); (case hT => decide +kernel); (case hk => exact Nat.le_of_ble_eq_true rfl))
    | ((with_reducible apply wps_load S 1); (case hx => rfl); (case hi => rfl); (case hT => decide +kernel); (case hu => rfl))
    | ((with_reducible apply wps_loada (T := 28) (k := 4) S 1); (case hx => rfl); (case hi => rfl); (case hT => decide +kernel); (case hk => exact Nat.le_of_ble_eq_true rfl))
    | ((with_reducible apply wps_load S 2); (case hx => rfl); (case hi => rfl); (case hT => decide +kernel); (case hu => rfl))
    | ((with_reducible apply wps_loada (T := 28) (k := 4) S 2); (case hx => rfl); (case hi => rfl); (case hT => decide +kernel); (case hk => exact Nat.le_of_ble_eq_true rfl))
    | ((with_reducible apply wps_load S 3); (case hx => rfl); (case hi => rfl); (case hT => decide +kernel); (case hu => rfl))
    | ((with_reducible apply wps_loada (T := 28) (k := 4) S 3); (case hx => rfl); (case hi => rfl); (case hT => decide +kernel); (case hk => exact Nat.le_of_ble_eq_true rfl))
  go_ret
  exact ⟨ret_bool (Key.cmp_neg _ _), S.below⟩
def HPost (F : Nat → Prop) (B M : Nat) (v : Value) (rows : List Row) (w : World) (e : Ending) (w' : World) : Prop := e = .returned (.tuple #[]) ∧ St F w w' [rawH B M v rows]
theorem ahead_int (B M : Nat) (i j : Int) (v : Value) (rows : List Row) (r r' : Row) (w : World) (F : Nat → Prop) (h : (rawH B M v rows).at_ w F) (hi0 : 0 ≤ i) (hj0 : 0 ≤ j) (hi : rows[i.toNat]? = some r) (hj : rows[j.toNat]? = some r') :
    Calls Try.prog 55 #[.pointer (some ⟨B, 0, none⟩), .int .i64 i, .int .i64 j] w fun e w' => e = .returned (.bool (r.key.lt r'.key)) ∧ Below w.heap.size w w' := by
  obtain ⟨n, rfl⟩ := Int.eq_ofNat_of_zero_le hi0
  obtain ⟨m, rfl⟩ := Int.eq_ofNat_of_zero_le hj0
  exact ahead_calls B M n m v rows r r' w F h hi hj
set_option maxHeartbeats 1000000 in
set_option maxRecDepth 100000 in
theorem swap_calls (B M i j : Nat) (v : Value) (rows : List Row) (r r' : Row) (w : World) (F : Nat → Prop) (h : (rawH B M v rows).at_ w F) (hd : (rows.map (·.key)).Nodup) (hi : rows[i]? = some r) (hj : rows[j]? = some r') (hne : i ≠ j) :
    Calls Try.prog 56 #[.pointer (some ⟨B, 0, none⟩), .int .i64 i, .int .i64 j] w (HPost F B M v (xch rows i j r r') w) := by
  have S := rawH_st h
  have hi1 : (i : Int) < rows.length := by have := (List.getElem?_eq_some_iff.1 hi).1; omega
  have hj1 : (j : Int) < rows.length := by have := (List.getElem?_eq_some_iff.1 hj).1; omega
  obtain ⟨R, cp, rfl, _⟩ := own_head 1 S rfl (by omega)
  have HJ2 := Lib.hid (show (rows.set i r')[j]? = some r' by rw [List.getElem?_set_ne hne]; exact hj)
  have HI3 := Lib.hid (show ((rows.set i r').set j r)[i]? = some r' by show (xch rows i j r r')[i]? = _; rw [xch_get hi hj, if_neg hne, if_pos rfl])
  have HJ3 := Lib.hid (show ((rows.set i r').set j r)[j]? = some r by show (xch rows i j r r')[j]? = _; rw [xch_get hi hj, if_pos rfl])
  have HE := Lib.hid (posMap_xch hd hi hj (xch_perm hi hj))
  have Hi := Lib.hid hi
  have Hj := Lib.hid hj
  clear hi hj
  clear h hd
  go_enter Try.func56, Try.ntmps56
  go_wp2_with first
    | ((with_reducible apply wps_loada_own hcells S 1 (hj := Hi.out) (q := 0) (vs := [.int .i64 r.key.at_, .int .i64 r.key.src, .int .i64 r.key.sent, .int .i64 r.key.no, .int .i64 r.v]) (m := 5)); (case hx => rfl); (case hT => decide +kernel); (case hi => rfl); (case hn => omega); (case hm => rfl); (case hv => rfl))
    | ((with_reducible apply wps_loada_own hcells S 1 (hj := Hi.out) (q := 0) (vs := [.int .i64 r.key.at_, .int .i64 r.key.src, .int .i64 r.key.sent, .int .i64 r.key.no]) (m := 4)); (case hx => rfl); (case hT => decide +kernel); (case hi => rfl); (case hn => omega); (case hm => rfl); (case hv => rfl))
    | ((with_reducible apply wps_loada_own hcells S 1 (hj := Hj.out) (q := 0) (vs := [.int .i64 r'.key.at_, .int .i64 r'.key.src, .int .i64 r'.key.sent, .int .i64 r'.key.no, .int .i64 r'.v]) (m := 5)); (case hx => rfl); (case hT => decide +kernel); (case hi => rfl); (case hn => omega); (case hm => rfl); (case hv => rfl))
    | ((with_reducible apply wps_loada_own hcells S 1 (hj := Hj.out) (q := 0) (vs := [.int .i64 r'.key.at_, .int .i64 r'.key.src, .int .i64 r'.key.sent, .int .i64 r'.key.no]) (m := 4)); (case hx => rfl); (case hT => decide +kernel); (case hi => rfl); (case hn => omega); (case hm => rfl); (case hv => rfl))
    | ((with_reducible apply wps_store_owna hcells S 1 (hj := Hi.out) (e' := r') (q := 0) (vs := [.int .i64 r'.key.at_, .int .i64 r'.key.src, .int .i64 r'.key.sent, .int .i64 r'.key.no, .int .i64 r'.v]) (m := 5)); (case hx => rfl); (case hn => omega); (case hi => rfl); (case hy => rfl); (case hT => decide +kernel); (case hm => rfl); (case h1 => rfl); (case he => rfl); (case hq => exact Nat.le_of_ble_eq_true rfl); clear S; intro wz S; simp only [List.set_cons_succ, List.set_cons_zero] at S)
    | ((with_reducible apply wps_store_owna hcells S 1 (hj := HJ2.out) (e' := r) (q := 0) (vs := [.int .i64 r.key.at_, .int .i64 r.key.src, .int .i64 r.key.sent, .int .i64 r.key.no, .int .i64 r.v]) (m := 5)); (case hx => rfl); (case hn => omega); (case hi => rfl); (case hy => rfl); (case hT => decide +kernel); (case hm => rfl); (case h1 => rfl); (case he => rfl); (case hq => exact Nat.le_of_ble_eq_true rfl); clear S; intro wz S; simp only [List.set_cons_succ, List.set_cons_zero] at S)
    | ((with_reducible apply wps_loada_own hcells S 1 (hj := HI3.out) (q := 0) (vs := [.int .i64 r'.key.at_, .int .i64 r'.key.src, .int .i64 r'.key.sent, .int .i64 r'.key.no, .int .i64 r'.v]) (m := 5)); (case hx => rfl); (case hT => decide +kernel); (case hi => rfl); (case hn => omega); (case hm => rfl); (case hv => rfl))
    | ((with_reducible apply wps_loada_own hcells S 1 (hj := HI3.out) (q := 0) (vs := [.int .i64 r'.key.at_, .int .i64 r'.key.src, .int .i64 r'.key.sent, .int .i64 r'.key.no]) (m := 4)); (case hx => rfl); (case hT => decide +kernel); (case hi => rfl); (case hn => omega); (case hm => rfl); (case hv => rfl))
    | ((with_reducible apply wps_loada_own hcells S 1 (hj := HJ3.out) (q := 0) (vs := [.int .i64 r.key.at_, .int .i64 r.key.src, .int .i64 r.key.sent, .int .i64 r.key.no, .int .i64 r.v]) (m := 5)); (case hx => rfl); (case hT => decide +kernel); (case hi => rfl); (case hn => omega); (case hm => rfl); (case hv => rfl))
    | ((with_reducible apply wps_loada_own hcells S 1 (hj := HJ3.out) (q := 0) (vs := [.int .i64 r.key.at_, .int .i64 r.key.src, .int .i64 r.key.sent, .int .i64 r.key.no]) (m := 4)); (case hx => rfl); (case hT => decide +kernel); (case hi => rfl); (case hn => omega); (case hm => rfl); (case hv => rfl))
    | ((with_reducible apply wps_mapUpdate keyed Try.underlying82 S 0 (k := r'.key) (v := .int .i64 i)); (case hx => rfl); (case hi => rfl); (case hy => exact (wholeKey _).symm); (case hz => rfl); clear S; intro wz S; simp only [List.set_cons_zero] at S)
    | ((with_reducible apply wps_mapUpdate keyed Try.underlying82 S 0 (k := r.key) (v := .int .i64 j)); (case hx => rfl); (case hi => rfl); (case hy => exact (wholeKey _).symm); (case hz => rfl); clear S; intro wz S; simp only [List.set_cons_zero] at S)
    | ((with_reducible refine tot_done ?ht ?_); (case ht => kernel_rfl))
    | ((with_reducible apply wps_text S); (case hm => kernel_rfl); (case hB => decide +kernel); clear S; intro wz S)
    | ((with_reducible apply wps_load S 0); (case hx => rfl); (case hi => rfl); (case hT => decide +kernel); (case hu => rfl))
    | ((with_reducible apply wps_loada (T := 28) (k := 4) S 0); (case hx => rfl); (case hi => rfl); (case hT => decide +kernel); (case hk => exact Nat.le_of_ble_eq_true rfl))
    | ((with_reducible apply wps_loada (T := 90) (k := 5) S 0); (case hx => rfl); (case hi => rfl); (case hT => decide +kernel); (case hk => exact Nat.le_of_ble_eq_true rfl))
    | ((with_reducible apply wps_load S 1); (case hx => rfl); (case hi => rfl); (case hT => decide +kernel); (case hu => rfl))
    | ((with_reducible apply wps_loada (T := 28) (k := 4) S 1); (case hx => rfl); (case hi => rfl); (case hT => decide +kernel); (case hk => exact Nat.le_of_ble_eq_true rfl))
    | ((with_reducible apply wps_loada (T := 90) (k := 5) S 1); (case hx => rfl); (case hi => rfl); (case hT => decide +kernel); (case hk => exact Nat.le_of_ble_eq_true rfl))
    | ((with_reducible apply wps_load S 2); (case hx => rfl); (case hi => rfl); (case hT => decide +kernel); (case hu => rfl))
    | ((with_reducible apply wps_loada (T := 28) (k := 4) S 2); (case hx => rfl); (case hi => rfl); (case hT => decide +kernel); (case hk => exact Nat.le_of_ble_eq_true rfl))
    | ((with_reducible apply wps_loada (T := 90) (k := 5) S 2); (case hx => rfl); (case hi => rfl); (case hT => decide +kernel); (case hk => exact Nat.le_of_ble_eq_true rfl))
    | ((with_reducible apply wps_load S 3); (case hx => rfl); (case hi => rfl); (case hT => decide +kernel); (case hu => rfl))
    | ((with_reducible apply wps_loada (T := 28) (k := 4) S 3); (case hx => rfl); (case hi => rfl); (case hT => decide +kernel); (case hk => exact Nat.le_of_ble_eq_true rfl))
    | ((with_reducible apply wps_loada (T := 90) (k := 5) S 3); (case hx => rfl); (case hi => rfl); (case hT => decide +kernel); (case hk => exact Nat.le_of_ble_eq_true rfl))
  go_end0
  refine ⟨rfl, ?_⟩
  rw [HE.out] at S
  exact rawH_close S
end Go.Proofs.Ytcbdacmdmaoegaa

import Derived.Test.YtcbdacmdmaoegaaK4
/- The walk of keys.Settle. -/
namespace Go.Proofs.Ytcbdacmdmaoegaa
open Go Go.RowKit Reg Mem

theorem id_nceqs {a b : Event} {v : Bool} (h : sameId a b = v) : (!ceqs [.int .i64 a.key.src, .int .i64 a.key.sent, .int .i64 a.key.no] [.int .i64 b.key.src, .int .i64 b.key.sent, .int .i64 b.key.no]) = !v := by rw [id_ceqs, h]
def aloneB (l : List Message) (i : Nat) : Bool := (List.range l.length).all fun k => k == i || (match l[i]?, l[k]? with | some a, some b => !sameId a.ev b.ev | _, _ => true)
theorem aloneB_iff {l : List Message} {i : Nat} : aloneB l i = true ↔ Alone l i := by
  simp only [aloneB, List.all_eq_true, List.mem_range, Bool.or_eq_true, beq_iff_eq]
  constructor
  · intro h k a b hk ha hb
    have := (h k (List.getElem?_eq_some_iff.1 hb).1).resolve_left hk
    simpa [ha, hb] using this
  · intro h k hk
    by_cases e : k = i
    · exact .inl e
    · refine .inr ?_
      cases ha : l[i]? with
      | none => rfl
      | some a =>
        rw [List.getElem?_eq_getElem hk]
        simp [h k a l[k] e ha (List.getElem?_eq_getElem hk)]
/-- The ones that are left, of the first i. -/
def leftTo (l : List Message) : Nat → List Message
  | 0 => []
  | i + 1 => leftTo l i ++ (match l[i]? with | some a => if aloneB l i then [a] else [] | none => [])
def left (l : List Message) : List Message := leftTo l l.length
theorem leftTo_len (l : List Message) (i : Nat) : (leftTo l i).length ≤ i := by
  induction i with
  | zero => simp [leftTo]
  | succ i ih =>
    simp only [leftTo, List.length_append]
    have : (match l[i]? with | some a => if aloneB l i then [a] else [] | none => []).length ≤ 1 := by split <;> (try split) <;> simp
    omega
theorem leftTo_one {l : List Message} {i : Nat} {a : Message} (ha : l[i]? = some a) (h : aloneB l i = true) : leftTo l (i + 1) = leftTo l i ++ [a] := by simp [leftTo, ha, h]
theorem leftTo_not {l : List Message} {i : Nat} {a : Message} (ha : l[i]? = some a) (h : aloneB l i = false) : leftTo l (i + 1) = leftTo l i := by simp [leftTo, ha, h]
def SetRel1 (ad ad2 : Option Addr) (cp c2 b : Nat) (l : List Message) (ps : List Nat) (w : World) (i : Value) (wr : World) : Prop :=
  ∃ (k : Nat) (met : List Bool), 1 ≤ k ∧ k ≤ l.length + 1 ∧ i = .int .i64 k ∧ Met l ps k met ∧ St (fun _ => False) w wr [Own 4 boolE 1 (.slice (some ⟨b, 0, none⟩) l.length l.length) met,
    Own 3 natE 1 (.slice ad2 l.length c2) ps, Sl true Message.cells 8 (.slice ad l.length cp) l]
def SetRel2 (ad : Option Addr) (cp b : Nat) (l : List Message) (met : List Bool) (w : World) (i : Value) (out : Value) (wr : World) : Prop :=
  ∃ (k : Nat), k ≤ l.length ∧ i = .int .i64 k ∧ St (fun _ => False) w wr [Own 72 Message.cells 8 out (leftTo l k), Own 4 boolE 1 (.slice (some ⟨b, 0, none⟩) l.length l.length) met,
    Sl true Message.cells 8 (.slice ad l.length cp) l]
def SetPost (l : List Message) (w : World) (e : Ending) (w' : World) : Prop :=
  (Bad l ∧ e = .returned (.tuple #[.slice none 0 0, .int .i64 13]) ∧ Below w.heap.size w w') ∨
  (¬ Bad l ∧ ∃ ad c, e = .returned (.tuple #[.slice ad (left l).length c, .int .i64 0]) ∧ St (fun _ => False) w w' [Own 72 Message.cells 8 (.slice ad (left l).length c) (left l)])
set_option maxRecDepth 100000 in
set_option maxHeartbeats 8000000 in
theorem settle_calls (v : Value) (l : List Message) (w : World) (F : Nat → Prop) (h : (Sl true Message.cells 8 v l).at_ w F) (hn : l.length ≤ 65536) : Calls Try.prog 31 #[v] w (SetPost l w) := by
  have S : St (fun _ => False) w w [Sl true Message.cells 8 v l] := (St.init _ w).share rfl rfl h
  obtain ⟨ad, cp, rfl, _⟩ := (S.sl 0 rfl).elim fun _ h => h.form
  clear h
  go_enter Try.func31, Try.ntmps31
  go_wp2_with first
    | go_skip
    | ((with_reducible refine wpList_skip ?hw ?_); (case hw => with_unfolding_all rfl); simp only [Act.put, List.setIfInBounds_toArray, List.set_cons_succ, List.set_cons_zero])
    | ((with_reducible refine tot_done ?ht ?_); (case ht => kernel_rfl))
    | ((with_reducible apply wps_text S); (case hm => kernel_rfl); (case hB => decide +kernel); clear S; intro wz S)
    | ((with_reducible apply wps_alloca (E := 72) S); (case hz => exact Try.zeroValue72); clear S; intro bz wz S)
    | ((with_reducible apply wps_load S 0); (case hx => rfl); (case hi => rfl); (case hT => decide +kernel); (case hu => rfl))
    | ((with_reducible apply wps_loada (T := 30) (k := 7) S 0); (case hx => rfl); (case hi => rfl); (case hT => decide +kernel); (case hk => exact Nat.le_of_ble_eq_true rfl))
    | ((with_reducible apply wps_loada (T := 72) (k := 8) S 0); (case hx => rfl); (case hi => rfl); (case hT => decide +kernel); (case hk => exact Nat.le_of_ble_eq_true rfl))
    | ((with_reducible apply wps_load S 1); (case hx => rfl); (case hi => rfl); (case hT => decide +kernel); (case hu => rfl))
    | ((with_reducible apply wps_loada (T := 30) (k := 7) S 1); (case hx => rfl); (case hi => rfl); (case hT => decide +kernel); (case hk => exact Nat.le_of_ble_eq_true rfl))
    | ((with_reducible apply wps_loada (T := 72) (k := 8) S 1); (case hx => rfl); (case hi => rfl); (case hT => decide +kernel); (case hk => exact Nat.le_of_ble_eq_true rfl))
    | ((with_reducible apply wps_load S 2); (case hx => rfl); (case hi => rfl); (case hT => decide +kernel); (case hu => rfl))
    | ((with_reducible apply wps_loada (T := 30) (k := 7) S 2); (case hx => rfl); (case hi => rfl); (case hT => decide +kernel); (case hk => exact Nat.le_of_ble_eq_true rfl))
    | ((with_reducible apply wps_loada (T := 72) (k := 8) S 2); (case hx => rfl); (case hi => rfl); (case hT => decide +kernel); (case hk => exact Nat.le_of_ble_eq_true rfl))
    | ((with_reducible apply wps_load S 3); (case hx => rfl); (case hi => rfl); (case hT => decide +kernel); (case hu => rfl))
    | ((with_reducible apply wps_loada (T := 30) (k := 7) S 3); (case hx => rfl); (case hi => rfl); (case hT => decide +kernel); (case hk => exact Nat.le_of_ble_eq_true rfl))
    | ((with_reducible apply wps_loada (T := 72) (k := 8) S 3); (case hx => rfl); (case hi => rfl); (case hT => decide +kernel); (case hk => exact Nat.le_of_ble_eq_true rfl))
  refine Calls.mono (byid_calls _ l _ _ (S.get (i := 0) rfl).choose_spec hn) ?_
  rintro e wz ⟨ad2, c2, ps, rfl, hps, hhd, T⟩
  replace S := S.join T rfl
  simp only [List.cons_append, List.nil_append] at S
  clear T
  have HM := Lib.hid (met_start (l := l) (p := ps) (i := 1) (by omega))
  have Hps := Lib.hid hps
  have Hhd := Lib.hid hhd
  clear hps hhd
  go_wp2_with first
    | go_skip
    | ((with_reducible refine wpList_skip ?hw ?_); (case hw => with_unfolding_all rfl); simp only [Act.put, List.setIfInBounds_toArray, List.set_cons_succ, List.set_cons_zero])
    | ((with_reducible apply wps_make boolE_len Try.underlying98 _ zero_Bo S (n := l.length)); (case hx => rfl); (case hy => rfl); (case hn => omega); clear S; intro bz wz S)
    | ((with_reducible refine tot_done ?ht ?_); (case ht => kernel_rfl))
    | ((with_reducible apply wps_text S); (case hm => kernel_rfl); (case hB => decide +kernel); clear S; intro wz S)
    | ((with_reducible apply wps_alloca (E := 72) S); (case hz => exact Try.zeroValue72); clear S; intro bz wz S)
    | ((with_reducible apply wps_load S 0); (case hx => rfl); (case hi => rfl); (case hT => decide +kernel); (case hu => rfl))
    | ((with_reducible apply wps_loada (T := 30) (k := 7) S 0); (case hx => rfl); (case hi => rfl); (case hT => decide +kernel); (case hk => exact Nat.le_of_ble_eq_true rfl))
    | ((with_reducible apply wps_loada (T := 72) (k := 8) S 0); (case hx => rfl); (case hi => rfl); (case hT => decide +kernel); (case hk => exact Nat.le_of_ble_eq_true rfl))
    | ((with_reducible apply wps_load S 1); (case hx => rfl); (case hi => rfl); (case hT => decide +kernel); (case hu => rfl))
    | ((with_reducible apply wps_loada (T := 30) (k := 7) S 1); (case hx => rfl); (case hi => rfl); (case hT => decide +kernel); (case hk => exact Nat.le_of_ble_eq_true rfl))
    | ((with_reducible apply wps_loada (T := 72) (k := 8) S 1); (case hx => rfl); (case hi => rfl); (case hT => decide +kernel); (case hk => exact Nat.le_of_ble_eq_true rfl))
    | ((with_reducible apply wps_load S 2); (case hx => rfl); (case hi => rfl); (case hT => decide +kernel); (case hu => rfl))
    | ((with_reducible apply wps_loada (T := 30) (k := 7) S 2); (case hx => rfl); (case hi => rfl); (case hT => decide +kernel); (case hk => exact Nat.le_of_ble_eq_true rfl))
    | ((with_reducible apply wps_loada (T := 72) (k := 8) S 2); (case hx => rfl); (case hi => rfl); (case hT => decide +kernel); (case hk => exact Nat.le_of_ble_eq_true rfl))
    | ((with_reducible apply wps_load S 3); (case hx => rfl); (case hi => rfl); (case hT => decide +kernel); (case hu => rfl))
    | ((with_reducible apply wps_loada (T := 30) (k := 7) S 3); (case hx => rfl); (case hi => rfl); (case hT => decide +kernel); (case hk => exact Nat.le_of_ble_eq_true rfl))
    | ((with_reducible apply wps_loada (T := 72) (k := 8) S 3); (case hx => rfl); (case hi => rfl); (case hT => decide +kernel); (case hk => exact Nat.le_of_ble_eq_true rfl))
  go_loopw [6] (fun i wr => SetRel1 ad ad2 cp c2 bz l ps w i wr) (fun i _ => l.length + 1 - (intOf i).toNat)
  case atStart => exact ⟨1, _, by omega, by omega, rfl, HM.out, S⟩
  case round =>
    clear S HM
    obtain ⟨k, met, hk1, hk2, rfl, hmet, S⟩ := hrel
    have Hmet := Lib.hid hmet
    clear hmet
    by_cases hlt : k < l.length
    · obtain ⟨i, rfl⟩ : ∃ i, k = i + 1 := ⟨k - 1, by omega⟩
      obtain ⟨R2, rfl⟩ := Hhd.out (by omega)
      obtain ⟨R, o, rfl⟩ : ∃ R o, ad = some ⟨R, o, none⟩ := (S.sl 2 rfl).elim fun F h => h.head (by omega)
      obtain ⟨x, hx⟩ : ∃ x, ps[i]? = some x := ⟨_, List.getElem?_eq_getElem (by rw [Hps.out.len]; omega)⟩
      obtain ⟨y, hy⟩ : ∃ y, ps[i + 1]? = some y := ⟨_, List.getElem?_eq_getElem (by rw [Hps.out.len]; omega)⟩
      have hxl := Hps.out.lt hx
      have hyl := Hps.out.lt hy
      obtain ⟨a, ha⟩ : ∃ a, l[x]? = some a := ⟨_, List.getElem?_eq_getElem hxl⟩
      obtain ⟨b, hb⟩ : ∃ b, l[y]? = some b := ⟨_, List.getElem?_eq_getElem hyl⟩
      obtain ⟨m, hm⟩ : ∃ m, met[x]? = some m := ⟨_, List.getElem?_eq_getElem (by rw [Hmet.out.len]; exact hxl)⟩
      have hlt2 : (i : Int) + 1 < l.length := by omega
      have hxl2 : (x : Int) < l.length := by omega
      have hyl2 : (y : Int) < l.length := by omega
      have Hx := Lib.hid hx
      have Hy := Lib.hid hy
      have Ha := Lib.hid ha
      have Hb := Lib.hid hb
      have Hm := Lib.hid hm
      clear hx hy ha hb hm
      go_wp2_with first
        | go_skip
        | ((with_reducible refine wpList_skip ?hw ?_); (case hw => with_unfolding_all rfl); simp only [Act.put, List.setIfInBounds_toArray, List.set_cons_succ, List.set_cons_zero])
        | ((with_reducible apply wps_load_own natE_len S 1 (hj := Hx.out) (q := 0) (u := .int .i64 (x : Nat))); (case hx => rfl); (case hi => rfl); (case hn => omega); (case hT => decide +kernel); (case hu => rfl))
        | ((with_reducible apply wps_load_own natE_len S 1 (hj := Hy.out) (q := 0) (u := .int .i64 (y : Nat))); (case hx => rfl); (case hi => rfl); (case hn => omega); (case hT => decide +kernel); (case hu => rfl))
        | ((with_reducible refine tot_done ?ht ?_); (case ht => kernel_rfl))
        | ((with_reducible apply wps_text S); (case hm => kernel_rfl); (case hB => decide +kernel); clear S; intro wz S)
        | ((with_reducible apply wps_alloca (E := 72) S); (case hz => exact Try.zeroValue72); clear S; intro bz wz S)
        | ((with_reducible apply wps_load S 0); (case hx => rfl); (case hi => rfl); (case hT => decide +kernel); (case hu => rfl))
        | ((with_reducible apply wps_loada (T := 30) (k := 7) S 0); (case hx => rfl); (case hi => rfl); (case hT => decide +kernel); (case hk => exact Nat.le_of_ble_eq_true rfl))
        | ((with_reducible apply wps_loada (T := 72) (k := 8) S 0); (case hx => rfl); (case hi => rfl); (case hT => decide +kernel); (case hk => exact Nat.le_of_ble_eq_true rfl))
        | ((with_reducible apply wps_load S 1); (case hx => rfl); (case hi => rfl); (case hT => decide +kernel); (case hu => rfl))
        | ((with_reducible apply wps_loada (T := 30) (k := 7) S 1); (case hx => rfl); (case hi => rfl); (case hT => decide +kernel); (case hk => exact Nat.le_of_ble_eq_true rfl))
        | ((with_reducible apply wps_loada (T := 72) (k := 8) S 1); (case hx => rfl); (case hi => rfl); (case hT => decide +kernel); (case hk => exact Nat.le_of_ble_eq_true rfl))
        | ((with_reducible apply wps_load S 2); (case hx => rfl); (case hi => rfl); (case hT => decide +kernel); (case hu => rfl))
        | ((with_reducible apply wps_loada (T := 30) (k := 7) S 2); (case hx => rfl); (case hi => rfl); (case hT => decide +kernel); (case hk => exact Nat.le_of_ble_eq_true rfl))
        | ((with_reducible apply wps_loada (T := 72) (k := 8) S 2); (case hx => rfl); (case hi => rfl); (case hT => decide +kernel); (case hk => exact Nat.le_of_ble_eq_true rfl))
        | ((with_reducible apply wps_load S 3); (case hx => rfl); (case hi => rfl); (case hT => decide +kernel); (case hu => rfl))
        | ((with_reducible apply wps_loada (T := 30) (k := 7) S 3); (case hx => rfl); (case hi => rfl); (case hT => decide +kernel); (case hk => exact Nat.le_of_ble_eq_true rfl))
        | ((with_reducible apply wps_loada (T := 72) (k := 8) S 3); (case hx => rfl); (case hi => rfl); (case hT => decide +kernel); (case hk => exact Nat.le_of_ble_eq_true rfl))
      cases hsi : sameId a.ev b.ev with
      | false =>
        have Hne := Lib.hid (id_nceqs hsi)
        have HM2 := Lib.hid (met_skip Hps.out Hmet.out Hx.out Hy.out Ha.out Hb.out hsi)
        clear hsi
        (refine wp_region_w (soft := [0, 1, 2, 3, 4, 5, 6, 7, 8, 9, 10, 11, 12]) S ?hm ?hB ?_); (case hm => kernel_rfl); (case hB => decide +kernel); clear S
        iterate 13
          (with_reducible apply softs_cons)
          (case hw =>
            (with_reducible apply soft_of); (case hi => rfl)
            intro T wz S
            simp only [List.cons_append, List.nil_append] at S
            go_wp2_with first
              | go_skip
              | ((with_reducible apply wps_loada_el S 2 (hj := Ha.out) (q := 0) (vs := [.int .i64 a.ev.key.at_, .int .i64 a.ev.key.src, .int .i64 a.ev.key.sent, .int .i64 a.ev.key.no, .int .i64 a.ev.dst, .int .i64 a.ev.kind, .int .i64 a.ev.data, .bool a.anti]) (m := 8)); (case hx => rfl); (case hT => decide +kernel); (case hi => rfl); (case hn => omega); (case hm => rfl); (case hv => rfl))
              | ((with_reducible apply wps_loada_el S 2 (hj := Ha.out) (q := 0) (vs := [.int .i64 a.ev.key.at_, .int .i64 a.ev.key.src, .int .i64 a.ev.key.sent, .int .i64 a.ev.key.no, .int .i64 a.ev.dst, .int .i64 a.ev.kind, .int .i64 a.ev.data]) (m := 7)); (case hx => rfl); (case hT => decide +kernel); (case hi => rfl); (case hn => omega); (case hm => rfl); (case hv => rfl))
              | ((with_reducible apply wps_loada_el S 2 (hj := Hb.out) (q := 0) (vs := [.int .i64 b.ev.key.at_, .int .i64 b.ev.key.src, .int .i64 b.ev.key.sent, .int .i64 b.ev.key.no, .int .i64 b.ev.dst, .int .i64 b.ev.kind, .int .i64 b.ev.data, .bool b.anti]) (m := 8)); (case hx => rfl); (case hT => decide +kernel); (case hi => rfl); (case hn => omega); (case hm => rfl); (case hv => rfl))
              | ((with_reducible apply wps_loada_el S 2 (hj := Hb.out) (q := 0) (vs := [.int .i64 b.ev.key.at_, .int .i64 b.ev.key.src, .int .i64 b.ev.key.sent, .int .i64 b.ev.key.no, .int .i64 b.ev.dst, .int .i64 b.ev.kind, .int .i64 b.ev.data]) (m := 7)); (case hx => rfl); (case hT => decide +kernel); (case hi => rfl); (case hn => omega); (case hm => rfl); (case hv => rfl))
              | (go_at_call 34; refine Calls.mono (of_calls _ _) ?_; rintro e wz ⟨rfl, hE⟩; replace S := S.ext (Keep.of_below hE); clear hE)
              | ((with_reducible apply wpList_neq_agg (t := 76) (ks := [.int .i64, .int .i64, .int .i64]) (b := _)); (case hx => rfl); (case hy => rfl); (case hl => kernel_rfl); (case ha => kernel_rfl); (case hg => kernel_rfl); (case hfx => rfl); (case hfy => rfl); (case hb => exact Hne.out))
              | ((with_reducible refine tot_done ?ht ?_); (case ht => kernel_rfl))
              | ((with_reducible apply wps_alloca (E := 72) S); (case hz => exact Try.zeroValue72); clear S; intro bz wz S)
              | ((with_reducible apply wps_load S 0); (case hx => rfl); (case hi => rfl); (case hT => decide +kernel); (case hu => rfl))
              | ((with_reducible apply wps_loada (T := 30) (k := 7) S 0); (case hx => rfl); (case hi => rfl); (case hT => decide +kernel); (case hk => exact Nat.le_of_ble_eq_true rfl))
              | ((with_reducible apply wps_loada (T := 72) (k := 8) S 0); (case hx => rfl); (case hi => rfl); (case hT => decide +kernel); (case hk => exact Nat.le_of_ble_eq_true rfl))
            exact ⟨rfl, S⟩)
          (case hs => exact ⟨_, rfl, by kernel_rfl⟩)
        refine softs_nil ?_
        (with_reducible apply W_done); (case hn => rfl); (case hr => decide +kernel)
        intro wz S
        simp only [List.append_nil] at S
        go_wp2_with first
          | go_skip
          | ((with_reducible refine wpList_skip ?hw ?_); (case hw => with_unfolding_all rfl); simp only [Act.put, List.setIfInBounds_toArray, List.set_cons_succ, List.set_cons_zero])
          | ((with_reducible refine tot_done ?ht ?_); (case ht => kernel_rfl))
          | ((with_reducible apply wps_text S); (case hm => kernel_rfl); (case hB => decide +kernel); clear S; intro wz S)
          | ((with_reducible apply wps_alloca (E := 72) S); (case hz => exact Try.zeroValue72); clear S; intro bz wz S)
          | ((with_reducible apply wps_load S 0); (case hx => rfl); (case hi => rfl); (case hT => decide +kernel); (case hu => rfl))
          | ((with_reducible apply wps_loada (T := 30) (k := 7) S 0); (case hx => rfl); (case hi => rfl); (case hT => decide +kernel); (case hk => exact Nat.le_of_ble_eq_true rfl))
          | ((with_reducible apply wps_loada (T := 72) (k := 8) S 0); (case hx => rfl); (case hi => rfl); (case hT => decide +kernel); (case hk => exact Nat.le_of_ble_eq_true rfl))
          | ((with_reducible apply wps_load S 1); (case hx => rfl); (case hi => rfl); (case hT => decide +kernel); (case hu => rfl))
          | ((with_reducible apply wps_loada (T := 30) (k := 7) S 1); (case hx => rfl); (case hi => rfl); (case hT => decide +kernel); (case hk => exact Nat.le_of_ble_eq_true rfl))
          | ((with_reducible apply wps_loada (T := 72) (k := 8) S 1); (case hx => rfl); (case hi => rfl); (case hT => decide +kernel); (case hk => exact Nat.le_of_ble_eq_true rfl))
          | ((with_reducible apply wps_load S 2); (case hx => rfl); (case hi => rfl); (case hT => decide +kernel); (case hu => rfl))
          | ((with_reducible apply wps_loada (T := 30) (k := 7) S 2); (case hx => rfl); (case hi => rfl); (case hT => decide +kernel); (case hk => exact Nat.le_of_ble_eq_true rfl))
          | ((with_reducible apply wps_loada (T := 72) (k := 8) S 2); (case hx => rfl); (case hi => rfl); (case hT => decide +kernel); (case hk => exact Nat.le_of_ble_eq_true rfl))
          | ((with_reducible apply wps_load S 3); (case hx => rfl); (case hi => rfl); (case hT => decide +kernel); (case hu => rfl))
          | ((with_reducible apply wps_loada (T := 30) (k := 7) S 3); (case hx => rfl); (case hi => rfl); (case hT => decide +kernel); (case hk => exact Nat.le_of_ble_eq_true rfl))
          | ((with_reducible apply wps_loada (T := 72) (k := 8) S 3); (case hx => rfl); (case hi => rfl); (case hT => decide +kernel); (case hk => exact Nat.le_of_ble_eq_true rfl))
        go_roundw
        case rel => exact ⟨i + 1 + 1, met, by omega, by omega, by go_num, HM2.out, S⟩
        case measure => simp [intOf]; omega
      | true =>
        have Hne := Lib.hid (id_nceqs hsi)
        have Hsi := Lib.hid hsi
        clear hsi
        (refine wp_region_w (soft := [0, 1, 2, 3, 4, 5, 6, 7, 8, 9, 10, 11, 12]) S ?hm ?hB ?_); (case hm => kernel_rfl); (case hB => decide +kernel); clear S
        iterate 13
          (with_reducible apply softs_cons)
          (case hw =>
            (with_reducible apply soft_of); (case hi => rfl)
            intro T wz S
            simp only [List.cons_append, List.nil_append] at S
            go_wp2_with first
              | go_skip
              | ((with_reducible apply wps_loada_el S 2 (hj := Ha.out) (q := 0) (vs := [.int .i64 a.ev.key.at_, .int .i64 a.ev.key.src, .int .i64 a.ev.key.sent, .int .i64 a.ev.key.no, .int .i64 a.ev.dst, .int .i64 a.ev.kind, .int .i64 a.ev.data, .bool a.anti]) (m := 8)); (case hx => rfl); (case hT => decide +kernel); (case hi => rfl); (case hn => omega); (case hm => rfl); (case hv => rfl))
              | ((with_reducible apply wps_loada_el S 2 (hj := Ha.out) (q := 0) (vs := [.int .i64 a.ev.key.at_, .int .i64 a.ev.key.src, .int .i64 a.ev.key.sent, .int .i64 a.ev.key.no, .int .i64 a.ev.dst, .int .i64 a.ev.kind, .int .i64 a.ev.data]) (m := 7)); (case hx => rfl); (case hT => decide +kernel); (case hi => rfl); (case hn => omega); (case hm => rfl); (case hv => rfl))
              | ((with_reducible apply wps_loada_el S 2 (hj := Hb.out) (q := 0) (vs := [.int .i64 b.ev.key.at_, .int .i64 b.ev.key.src, .int .i64 b.ev.key.sent, .int .i64 b.ev.key.no, .int .i64 b.ev.dst, .int .i64 b.ev.kind, .int .i64 b.ev.data, .bool b.anti]) (m := 8)); (case hx => rfl); (case hT => decide +kernel); (case hi => rfl); (case hn => omega); (case hm => rfl); (case hv => rfl))
              | ((with_reducible apply wps_loada_el S 2 (hj := Hb.out) (q := 0) (vs := [.int .i64 b.ev.key.at_, .int .i64 b.ev.key.src, .int .i64 b.ev.key.sent, .int .i64 b.ev.key.no, .int .i64 b.ev.dst, .int .i64 b.ev.kind, .int .i64 b.ev.data]) (m := 7)); (case hx => rfl); (case hT => decide +kernel); (case hi => rfl); (case hn => omega); (case hm => rfl); (case hv => rfl))
              | (go_at_call 34; refine Calls.mono (of_calls _ _) ?_; rintro e wz ⟨rfl, hE⟩; replace S := S.ext (Keep.of_below hE); clear hE)
              | ((with_reducible apply wpList_neq_agg (t := 76) (ks := [.int .i64, .int .i64, .int .i64]) (b := _)); (case hx => rfl); (case hy => rfl); (case hl => kernel_rfl); (case ha => kernel_rfl); (case hg => kernel_rfl); (case hfx => rfl); (case hfy => rfl); (case hb => exact Hne.out))
              | ((with_reducible refine tot_done ?ht ?_); (case ht => kernel_rfl))
              | ((with_reducible apply wps_alloca (E := 72) S); (case hz => exact Try.zeroValue72); clear S; intro bz wz S)
              | ((with_reducible apply wps_load S 0); (case hx => rfl); (case hi => rfl); (case hT => decide +kernel); (case hu => rfl))
              | ((with_reducible apply wps_loada (T := 30) (k := 7) S 0); (case hx => rfl); (case hi => rfl); (case hT => decide +kernel); (case hk => exact Nat.le_of_ble_eq_true rfl))
              | ((with_reducible apply wps_loada (T := 72) (k := 8) S 0); (case hx => rfl); (case hi => rfl); (case hT => decide +kernel); (case hk => exact Nat.le_of_ble_eq_true rfl))
            exact ⟨rfl, S⟩)
          (case hs => exact ⟨_, rfl, by kernel_rfl⟩)
        refine softs_nil ?_
        (with_reducible apply W_done); (case hn => rfl); (case hr => decide +kernel)
        intro wz S
        simp only [List.append_nil] at S
        cases m with
        | true =>
          have HB := Lib.hid (met_bad Hps.out Hmet.out Hx.out Hy.out Ha.out Hb.out Hsi.out (.inl Hm.out))
          go_wp2_with first
            | go_skip
            | ((with_reducible refine wpList_skip ?hw ?_); (case hw => with_unfolding_all rfl); simp only [Act.put, List.setIfInBounds_toArray, List.set_cons_succ, List.set_cons_zero])
            | ((with_reducible apply wps_load_own boolE_len S 0 (hj := Hm.out) (q := 0) (u := .bool true)); (case hx => rfl); (case hi => rfl); (case hn => omega); (case hT => decide +kernel); (case hu => rfl))
            | ((with_reducible refine tot_done ?ht ?_); (case ht => kernel_rfl))
            | ((with_reducible apply wps_text S); (case hm => kernel_rfl); (case hB => decide +kernel); clear S; intro wz S)
            | ((with_reducible apply wps_alloca (E := 72) S); (case hz => exact Try.zeroValue72); clear S; intro bz wz S)
            | ((with_reducible apply wps_load S 0); (case hx => rfl); (case hi => rfl); (case hT => decide +kernel); (case hu => rfl))
            | ((with_reducible apply wps_loada (T := 30) (k := 7) S 0); (case hx => rfl); (case hi => rfl); (case hT => decide +kernel); (case hk => exact Nat.le_of_ble_eq_true rfl))
            | ((with_reducible apply wps_loada (T := 72) (k := 8) S 0); (case hx => rfl); (case hi => rfl); (case hT => decide +kernel); (case hk => exact Nat.le_of_ble_eq_true rfl))
            | ((with_reducible apply wps_load S 1); (case hx => rfl); (case hi => rfl); (case hT => decide +kernel); (case hu => rfl))
            | ((with_reducible apply wps_loada (T := 30) (k := 7) S 1); (case hx => rfl); (case hi => rfl); (case hT => decide +kernel); (case hk => exact Nat.le_of_ble_eq_true rfl))
            | ((with_reducible apply wps_loada (T := 72) (k := 8) S 1); (case hx => rfl); (case hi => rfl); (case hT => decide +kernel); (case hk => exact Nat.le_of_ble_eq_true rfl))
            | ((with_reducible apply wps_load S 2); (case hx => rfl); (case hi => rfl); (case hT => decide +kernel); (case hu => rfl))
            | ((with_reducible apply wps_loada (T := 30) (k := 7) S 2); (case hx => rfl); (case hi => rfl); (case hT => decide +kernel); (case hk => exact Nat.le_of_ble_eq_true rfl))
            | ((with_reducible apply wps_loada (T := 72) (k := 8) S 2); (case hx => rfl); (case hi => rfl); (case hT => decide +kernel); (case hk => exact Nat.le_of_ble_eq_true rfl))
            | ((with_reducible apply wps_load S 3); (case hx => rfl); (case hi => rfl); (case hT => decide +kernel); (case hu => rfl))
            | ((with_reducible apply wps_loada (T := 30) (k := 7) S 3); (case hx => rfl); (case hi => rfl); (case hT => decide +kernel); (case hk => exact Nat.le_of_ble_eq_true rfl))
            | ((with_reducible apply wps_loada (T := 72) (k := 8) S 3); (case hx => rfl); (case hi => rfl); (case hT => decide +kernel); (case hk => exact Nat.le_of_ble_eq_true rfl))
          go_ret2
          exact .inl ⟨HB.out, rfl, S.below⟩
        | false =>
          cases hmt : meets a b with
          | false =>
            have HB := Lib.hid (met_bad Hps.out Hmet.out Hx.out Hy.out Ha.out Hb.out Hsi.out (.inr hmt))
            have HT : Hid (∀ w, Calls Try.prog 52 #[.agg #[.int .i64 a.ev.key.at_, .int .i64 a.ev.key.src, .int .i64 a.ev.key.sent, .int .i64 a.ev.key.no, .int .i64 a.ev.dst, .int .i64 a.ev.kind, .int .i64 a.ev.data, .bool a.anti], .agg #[.int .i64 b.ev.key.at_, .int .i64 b.ev.key.src, .int .i64 b.ev.key.sent, .int .i64 b.ev.key.no, .int .i64 b.ev.dst, .int .i64 b.ev.kind, .int .i64 b.ev.data, .bool b.anti]] w fun r w' => r = .returned (.bool false) ∧ Below w.heap.size w w') := fun w => hmt ▸ meets_calls a b w
            clear hmt
            go_wp2_with first
              | go_skip
              | ((with_reducible refine wpList_skip ?hw ?_); (case hw => with_unfolding_all rfl); simp only [Act.put, List.setIfInBounds_toArray, List.set_cons_succ, List.set_cons_zero])
              | ((with_reducible apply wps_load_own boolE_len S 0 (hj := Hm.out) (q := 0) (u := .bool false)); (case hx => rfl); (case hi => rfl); (case hn => omega); (case hT => decide +kernel); (case hu => rfl))
              | ((with_reducible apply wps_loada_el S 2 (hj := Ha.out) (q := 0) (vs := [.int .i64 a.ev.key.at_, .int .i64 a.ev.key.src, .int .i64 a.ev.key.sent, .int .i64 a.ev.key.no, .int .i64 a.ev.dst, .int .i64 a.ev.kind, .int .i64 a.ev.data, .bool a.anti]) (m := 8)); (case hx => rfl); (case hT => decide +kernel); (case hi => rfl); (case hn => omega); (case hm => rfl); (case hv => rfl))
              | ((with_reducible apply wps_loada_el S 2 (hj := Ha.out) (q := 0) (vs := [.int .i64 a.ev.key.at_, .int .i64 a.ev.key.src, .int .i64 a.ev.key.sent, .int .i64 a.ev.key.no, .int .i64 a.ev.dst, .int .i64 a.ev.kind, .int .i64 a.ev.data]) (m := 7)); (case hx => rfl); (case hT => decide +kernel); (case hi => rfl); (case hn => omega); (case hm => rfl); (case hv => rfl))
              | ((with_reducible apply wps_loada_el S 2 (hj := Hb.out) (q := 0) (vs := [.int .i64 b.ev.key.at_, .int .i64 b.ev.key.src, .int .i64 b.ev.key.sent, .int .i64 b.ev.key.no, .int .i64 b.ev.dst, .int .i64 b.ev.kind, .int .i64 b.ev.data, .bool b.anti]) (m := 8)); (case hx => rfl); (case hT => decide +kernel); (case hi => rfl); (case hn => omega); (case hm => rfl); (case hv => rfl))
              | ((with_reducible apply wps_loada_el S 2 (hj := Hb.out) (q := 0) (vs := [.int .i64 b.ev.key.at_, .int .i64 b.ev.key.src, .int .i64 b.ev.key.sent, .int .i64 b.ev.key.no, .int .i64 b.ev.dst, .int .i64 b.ev.kind, .int .i64 b.ev.data]) (m := 7)); (case hx => rfl); (case hT => decide +kernel); (case hi => rfl); (case hn => omega); (case hm => rfl); (case hv => rfl))
              | (go_at_call 52; refine Calls.mono (HT.out _) ?_; rintro e wz ⟨rfl, hE⟩; replace S := S.ext (Keep.of_below hE); clear hE)
              | ((with_reducible refine tot_done ?ht ?_); (case ht => kernel_rfl))
              | ((with_reducible apply wps_text S); (case hm => kernel_rfl); (case hB => decide +kernel); clear S; intro wz S)
              | ((with_reducible apply wps_alloca (E := 72) S); (case hz => exact Try.zeroValue72); clear S; intro bz wz S)
              | ((with_reducible apply wps_load S 0); (case hx => rfl); (case hi => rfl); (case hT => decide +kernel); (case hu => rfl))
              | ((with_reducible apply wps_loada (T := 30) (k := 7) S 0); (case hx => rfl); (case hi => rfl); (case hT => decide +kernel); (case hk => exact Nat.le_of_ble_eq_true rfl))
              | ((with_reducible apply wps_loada (T := 72) (k := 8) S 0); (case hx => rfl); (case hi => rfl); (case hT => decide +kernel); (case hk => exact Nat.le_of_ble_eq_true rfl))
              | ((with_reducible apply wps_load S 1); (case hx => rfl); (case hi => rfl); (case hT => decide +kernel); (case hu => rfl))
              | ((with_reducible apply wps_loada (T := 30) (k := 7) S 1); (case hx => rfl); (case hi => rfl); (case hT => decide +kernel); (case hk => exact Nat.le_of_ble_eq_true rfl))
              | ((with_reducible apply wps_loada (T := 72) (k := 8) S 1); (case hx => rfl); (case hi => rfl); (case hT => decide +kernel); (case hk => exact Nat.le_of_ble_eq_true rfl))
              | ((with_reducible apply wps_load S 2); (case hx => rfl); (case hi => rfl); (case hT => decide +kernel); (case hu => rfl))
              | ((with_reducible apply wps_loada (T := 30) (k := 7) S 2); (case hx => rfl); (case hi => rfl); (case hT => decide +kernel); (case hk => exact Nat.le_of_ble_eq_true rfl))
              | ((with_reducible apply wps_loada (T := 72) (k := 8) S 2); (case hx => rfl); (case hi => rfl); (case hT => decide +kernel); (case hk => exact Nat.le_of_ble_eq_true rfl))
              | ((with_reducible apply wps_load S 3); (case hx => rfl); (case hi => rfl); (case hT => decide +kernel); (case hu => rfl))
              | ((with_reducible apply wps_loada (T := 30) (k := 7) S 3); (case hx => rfl); (case hi => rfl); (case hT => decide +kernel); (case hk => exact Nat.le_of_ble_eq_true rfl))
              | ((with_reducible apply wps_loada (T := 72) (k := 8) S 3); (case hx => rfl); (case hi => rfl); (case hT => decide +kernel); (case hk => exact Nat.le_of_ble_eq_true rfl))
            go_ret2
            exact .inl ⟨HB.out, rfl, S.below⟩
          | true =>
            have HM2 := Lib.hid (met_two Hps.out Hmet.out Hx.out Hy.out Ha.out Hb.out Hsi.out Hm.out hmt)
            have HT : Hid (∀ w, Calls Try.prog 52 #[.agg #[.int .i64 a.ev.key.at_, .int .i64 a.ev.key.src, .int .i64 a.ev.key.sent, .int .i64 a.ev.key.no, .int .i64 a.ev.dst, .int .i64 a.ev.kind, .int .i64 a.ev.data, .bool a.anti], .agg #[.int .i64 b.ev.key.at_, .int .i64 b.ev.key.src, .int .i64 b.ev.key.sent, .int .i64 b.ev.key.no, .int .i64 b.ev.dst, .int .i64 b.ev.kind, .int .i64 b.ev.data, .bool b.anti]] w fun r w' => r = .returned (.bool true) ∧ Below w.heap.size w w') := fun w => hmt ▸ meets_calls a b w
            clear hmt
            obtain ⟨m2, hm2⟩ : ∃ m2, (met.set x true)[y]? = some m2 := ⟨_, List.getElem?_eq_getElem (by rw [List.length_set, Hmet.out.len]; exact hyl)⟩
            have Hm2 := Lib.hid hm2
            clear hm2
            go_wp2_with first
              | go_skip
              | ((with_reducible refine wpList_skip ?hw ?_); (case hw => with_unfolding_all rfl); simp only [Act.put, List.setIfInBounds_toArray, List.set_cons_succ, List.set_cons_zero])
              | ((with_reducible apply wps_load_own boolE_len S 0 (hj := Hm.out) (q := 0) (u := .bool false)); (case hx => rfl); (case hi => rfl); (case hn => omega); (case hT => decide +kernel); (case hu => rfl))
              | ((with_reducible apply wps_loada_el S 2 (hj := Ha.out) (q := 0) (vs := [.int .i64 a.ev.key.at_, .int .i64 a.ev.key.src, .int .i64 a.ev.key.sent, .int .i64 a.ev.key.no, .int .i64 a.ev.dst, .int .i64 a.ev.kind, .int .i64 a.ev.data, .bool a.anti]) (m := 8)); (case hx => rfl); (case hT => decide +kernel); (case hi => rfl); (case hn => omega); (case hm => rfl); (case hv => rfl))
              | ((with_reducible apply wps_loada_el S 2 (hj := Ha.out) (q := 0) (vs := [.int .i64 a.ev.key.at_, .int .i64 a.ev.key.src, .int .i64 a.ev.key.sent, .int .i64 a.ev.key.no, .int .i64 a.ev.dst, .int .i64 a.ev.kind, .int .i64 a.ev.data]) (m := 7)); (case hx => rfl); (case hT => decide +kernel); (case hi => rfl); (case hn => omega); (case hm => rfl); (case hv => rfl))
              | ((with_reducible apply wps_loada_el S 2 (hj := Hb.out) (q := 0) (vs := [.int .i64 b.ev.key.at_, .int .i64 b.ev.key.src, .int .i64 b.ev.key.sent, .int .i64 b.ev.key.no, .int .i64 b.ev.dst, .int .i64 b.ev.kind, .int .i64 b.ev.data, .bool b.anti]) (m := 8)); (case hx => rfl); (case hT => decide +kernel); (case hi => rfl); (case hn => omega); (case hm => rfl); (case hv => rfl))
              | ((with_reducible apply wps_loada_el S 2 (hj := Hb.out) (q := 0) (vs := [.int .i64 b.ev.key.at_, .int .i64 b.ev.key.src, .int .i64 b.ev.key.sent, .int .i64 b.ev.key.no, .int .i64 b.ev.dst, .int .i64 b.ev.kind, .int .i64 b.ev.data]) (m := 7)); (case hx => rfl); (case hT => decide +kernel); (case hi => rfl); (case hn => omega); (case hm => rfl); (case hv => rfl))
              | (go_at_call 52; refine Calls.mono (HT.out _) ?_; rintro e wz ⟨rfl, hE⟩; replace S := S.ext (Keep.of_below hE); clear hE)
              | ((with_reducible apply wps_store_own boolE_len S 0 (hj := Hm.out) (e' := true) (q := 0)); (case hx => rfl); (case hn => omega); (case hi => rfl); (case hy => rfl); (case hT => decide +kernel); (case h1 => rfl); (case he => rfl); (case hq => decide); clear S; intro wz S; simp only [List.set_cons_zero] at S)
              | ((with_reducible apply wps_store_own boolE_len S 0 (hj := Hm2.out) (e' := true) (q := 0)); (case hx => rfl); (case hn => omega); (case hi => rfl); (case hy => rfl); (case hT => decide +kernel); (case h1 => rfl); (case he => rfl); (case hq => decide); clear S; intro wz S; simp only [List.set_cons_zero] at S)
              | ((with_reducible refine tot_done ?ht ?_); (case ht => kernel_rfl))
              | ((with_reducible apply wps_text S); (case hm => kernel_rfl); (case hB => decide +kernel); clear S; intro wz S)
              | ((with_reducible apply wps_alloca (E := 72) S); (case hz => exact Try.zeroValue72); clear S; intro bz wz S)
              | ((with_reducible apply wps_load S 0); (case hx => rfl); (case hi => rfl); (case hT => decide +kernel); (case hu => rfl))
              | ((with_reducible apply wps_loada (T := 30) (k := 7) S 0); (case hx => rfl); (case hi => rfl); (case hT => decide +kernel); (case hk => exact Nat.le_of_ble_eq_true rfl))
              | ((with_reducible apply wps_loada (T := 72) (k := 8) S 0); (case hx => rfl); (case hi => rfl); (case hT => decide +kernel); (case hk => exact Nat.le_of_ble_eq_true rfl))
              | ((with_reducible apply wps_load S 1); (case hx => rfl); (case hi => rfl); (case hT => decide +kernel); (case hu => rfl))
              | ((with_reducible apply wps_loada (T := 30) (k := 7) S 1); (case hx => rfl); (case hi => rfl); (case hT => decide +kernel); (case hk => exact Nat.le_of_ble_eq_true rfl))
              | ((with_reducible apply wps_loada (T := 72) (k := 8) S 1); (case hx => rfl); (case hi => rfl); (case hT => decide +kernel); (case hk => exact Nat.le_of_ble_eq_true rfl))
              | ((with_reducible apply wps_load S 2); (case hx => rfl); (case hi => rfl); (case hT => decide +kernel); (case hu => rfl))
              | ((with_reducible apply wps_loada (T := 30) (k := 7) S 2); (case hx => rfl); (case hi => rfl); (case hT => decide +kernel); (case hk => exact Nat.le_of_ble_eq_true rfl))
              | ((with_reducible apply wps_loada (T := 72) (k := 8) S 2); (case hx => rfl); (case hi => rfl); (case hT => decide +kernel); (case hk => exact Nat.le_of_ble_eq_true rfl))
              | ((with_reducible apply wps_load S 3); (case hx => rfl); (case hi => rfl); (case hT => decide +kernel); (case hu => rfl))
              | ((with_reducible apply wps_loada (T := 30) (k := 7) S 3); (case hx => rfl); (case hi => rfl); (case hT => decide +kernel); (case hk => exact Nat.le_of_ble_eq_true rfl))
              | ((with_reducible apply wps_loada (T := 72) (k := 8) S 3); (case hx => rfl); (case hi => rfl); (case hT => decide +kernel); (case hk => exact Nat.le_of_ble_eq_true rfl))
            go_roundw
            case rel => exact ⟨i + 1 + 1, _, by omega, by omega, by go_num, HM2.out, S⟩
            case measure => simp [intOf]; omega
    · have HD := Lib.hid (met_done Hps.out Hmet.out (by omega))
      replace S := S.pick [0, 2] rfl
      simp only [pick, nth] at S
      replace S := S.nil 72 Message.cells 8
      clear Hps Hhd
      go_wp2_with first
        | go_skip
        | ((with_reducible refine wpList_skip ?hw ?_); (case hw => with_unfolding_all rfl); simp only [Act.put, List.setIfInBounds_toArray, List.set_cons_succ, List.set_cons_zero])
        | ((with_reducible refine tot_done ?ht ?_); (case ht => kernel_rfl))
        | ((with_reducible apply wps_text S); (case hm => kernel_rfl); (case hB => decide +kernel); clear S; intro wz S)
        | ((with_reducible apply wps_alloca (E := 72) S); (case hz => exact Try.zeroValue72); clear S; intro bz wz S)
        | ((with_reducible apply wps_load S 0); (case hx => rfl); (case hi => rfl); (case hT => decide +kernel); (case hu => rfl))
        | ((with_reducible apply wps_loada (T := 30) (k := 7) S 0); (case hx => rfl); (case hi => rfl); (case hT => decide +kernel); (case hk => exact Nat.le_of_ble_eq_true rfl))
        | ((with_reducible apply wps_loada (T := 72) (k := 8) S 0); (case hx => rfl); (case hi => rfl); (case hT => decide +kernel); (case hk => exact Nat.le_of_ble_eq_true rfl))
        | ((with_reducible apply wps_load S 1); (case hx => rfl); (case hi => rfl); (case hT => decide +kernel); (case hu => rfl))
        | ((with_reducible apply wps_loada (T := 30) (k := 7) S 1); (case hx => rfl); (case hi => rfl); (case hT => decide +kernel); (case hk => exact Nat.le_of_ble_eq_true rfl))
        | ((with_reducible apply wps_loada (T := 72) (k := 8) S 1); (case hx => rfl); (case hi => rfl); (case hT => decide +kernel); (case hk => exact Nat.le_of_ble_eq_true rfl))
        | ((with_reducible apply wps_load S 2); (case hx => rfl); (case hi => rfl); (case hT => decide +kernel); (case hu => rfl))
        | ((with_reducible apply wps_loada (T := 30) (k := 7) S 2); (case hx => rfl); (case hi => rfl); (case hT => decide +kernel); (case hk => exact Nat.le_of_ble_eq_true rfl))
        | ((with_reducible apply wps_loada (T := 72) (k := 8) S 2); (case hx => rfl); (case hi => rfl); (case hT => decide +kernel); (case hk => exact Nat.le_of_ble_eq_true rfl))
        | ((with_reducible apply wps_load S 3); (case hx => rfl); (case hi => rfl); (case hT => decide +kernel); (case hu => rfl))
        | ((with_reducible apply wps_loada (T := 30) (k := 7) S 3); (case hx => rfl); (case hi => rfl); (case hT => decide +kernel); (case hk => exact Nat.le_of_ble_eq_true rfl))
        | ((with_reducible apply wps_loada (T := 72) (k := 8) S 3); (case hx => rfl); (case hi => rfl); (case hT => decide +kernel); (case hk => exact Nat.le_of_ble_eq_true rfl))
      go_loopw [9, 69] (fun out i wr => SetRel2 ad cp bz l met w i out wr) (fun _ i _ => l.length - (intOf i).toNat)
      case atStart => exact ⟨0, Nat.zero_le _, rfl, S⟩
      case round =>
        clear S
        obtain ⟨j, hj, rfl, S⟩ := hrel
        have hll := leftTo_len l j
        by_cases hlt2 : j < l.length
        · obtain ⟨R, o, rfl⟩ : ∃ R o, ad = some ⟨R, o, none⟩ := (S.sl 2 rfl).elim fun F h => h.head (by omega)
          obtain ⟨a, ha⟩ : ∃ a, l[j]? = some a := ⟨_, List.getElem?_eq_getElem hlt2⟩
          obtain ⟨m, hm⟩ : ∃ m, met[j]? = some m := ⟨_, List.getElem?_eq_getElem (by rw [Hmet.out.len]; exact hlt2)⟩
          have hlt3 : (j : Int) < l.length := by omega
          have hal := HD.out.2 j a ha
          rw [hm, ← aloneB_iff] at hal
          cases m with
          | true =>
            have HA := Lib.hid (leftTo_not ha (by simpa using hal))
            clear hal
            have Ha := Lib.hid ha
            have Hm := Lib.hid hm
            clear ha hm
            go_wp2_with first
              | go_skip
              | ((with_reducible refine wpList_skip ?hw ?_); (case hw => with_unfolding_all rfl); simp only [Act.put, List.setIfInBounds_toArray, List.set_cons_succ, List.set_cons_zero])
              | ((with_reducible apply wps_loada_el S 2 (hj := Ha.out) (q := 0) (vs := [.int .i64 a.ev.key.at_, .int .i64 a.ev.key.src, .int .i64 a.ev.key.sent, .int .i64 a.ev.key.no, .int .i64 a.ev.dst, .int .i64 a.ev.kind, .int .i64 a.ev.data, .bool a.anti]) (m := 8)); (case hx => rfl); (case hT => decide +kernel); (case hi => rfl); (case hn => omega); (case hm => rfl); (case hv => rfl))
              | ((with_reducible apply wps_loada_el S 2 (hj := Ha.out) (q := 0) (vs := [.int .i64 a.ev.key.at_, .int .i64 a.ev.key.src, .int .i64 a.ev.key.sent, .int .i64 a.ev.key.no, .int .i64 a.ev.dst, .int .i64 a.ev.kind, .int .i64 a.ev.data]) (m := 7)); (case hx => rfl); (case hT => decide +kernel); (case hi => rfl); (case hn => omega); (case hm => rfl); (case hv => rfl))
              | ((with_reducible apply wps_load_own boolE_len S 2 (hj := Hm.out) (q := 0) (u := .bool true)); (case hx => rfl); (case hi => rfl); (case hn => omega); (case hT => decide +kernel); (case hu => rfl))
              | ((with_reducible apply wps_storea (T := 72) S 0 (vs := [.int .i64 a.ev.key.at_, .int .i64 a.ev.key.src, .int .i64 a.ev.key.sent, .int .i64 a.ev.key.no, .int .i64 a.ev.dst, .int .i64 a.ev.kind, .int .i64 a.ev.data, .bool a.anti]) (m := 8)); (case hx => rfl); (case hy => rfl); (case hi => rfl); (case hT => decide +kernel); (case hm => rfl); (case h1 => rfl); (case hn => exact Nat.le_of_ble_eq_true rfl); clear S; intro wz S; simp only [List.set_cons_zero, List.set_cons_succ, setAll, List.setIfInBounds_toArray] at S)
              | ((with_reducible refine tot_done ?ht ?_); (case ht => kernel_rfl))
              | ((with_reducible apply wps_text S); (case hm => kernel_rfl); (case hB => decide +kernel); clear S; intro wz S)
              | ((with_reducible apply wps_alloca (E := 72) S); (case hz => exact Try.zeroValue72); clear S; intro bz wz S)
              | ((with_reducible apply wps_load S 0); (case hx => rfl); (case hi => rfl); (case hT => decide +kernel); (case hu => rfl))
              | ((with_reducible apply wps_loada (T := 30) (k := 7) S 0); (case hx => rfl); (case hi => rfl); (case hT => decide +kernel); (case hk => exact Nat.le_of_ble_eq_true rfl))
              | ((with_reducible apply wps_loada (T := 72) (k := 8) S 0); (case hx => rfl); (case hi => rfl); (case hT => decide +kernel); (case hk => exact Nat.le_of_ble_eq_true rfl))
              | ((with_reducible apply wps_load S 1); (case hx => rfl); (case hi => rfl); (case hT => decide +kernel); (case hu => rfl))
              | ((with_reducible apply wps_loada (T := 30) (k := 7) S 1); (case hx => rfl); (case hi => rfl); (case hT => decide +kernel); (case hk => exact Nat.le_of_ble_eq_true rfl))
              | ((with_reducible apply wps_loada (T := 72) (k := 8) S 1); (case hx => rfl); (case hi => rfl); (case hT => decide +kernel); (case hk => exact Nat.le_of_ble_eq_true rfl))
              | ((with_reducible apply wps_load S 2); (case hx => rfl); (case hi => rfl); (case hT => decide +kernel); (case hu => rfl))
              | ((with_reducible apply wps_loada (T := 30) (k := 7) S 2); (case hx => rfl); (case hi => rfl); (case hT => decide +kernel); (case hk => exact Nat.le_of_ble_eq_true rfl))
              | ((with_reducible apply wps_loada (T := 72) (k := 8) S 2); (case hx => rfl); (case hi => rfl); (case hT => decide +kernel); (case hk => exact Nat.le_of_ble_eq_true rfl))
              | ((with_reducible apply wps_load S 3); (case hx => rfl); (case hi => rfl); (case hT => decide +kernel); (case hu => rfl))
              | ((with_reducible apply wps_loada (T := 30) (k := 7) S 3); (case hx => rfl); (case hi => rfl); (case hT => decide +kernel); (case hk => exact Nat.le_of_ble_eq_true rfl))
              | ((with_reducible apply wps_loada (T := 72) (k := 8) S 3); (case hx => rfl); (case hi => rfl); (case hT => decide +kernel); (case hk => exact Nat.le_of_ble_eq_true rfl))
            go_roundw
            case rel => exact ⟨j + 1, by omega, by go_num, by rw [HA.out]; exact S.tail⟩
            case measure => simp [intOf]; omega
          | false =>
            have HA := Lib.hid (leftTo_one ha (by simpa using hal))
            clear hal
            have Ha := Lib.hid ha
            have Hm := Lib.hid hm
            clear ha hm
            go_wp2_with first
              | go_skip
              | ((with_reducible refine wpList_skip ?hw ?_); (case hw => with_unfolding_all rfl); simp only [Act.put, List.setIfInBounds_toArray, List.set_cons_succ, List.set_cons_zero])
              | ((with_reducible apply wps_loada_el S 2 (hj := Ha.out) (q := 0) (vs := [.int .i64 a.ev.key.at_, .int .i64 a.ev.key.src, .int .i64 a.ev.key.sent, .int .i64 a.ev.key.no, .int .i64 a.ev.dst, .int .i64 a.ev.kind, .int .i64 a.ev.data, .bool a.anti]) (m := 8)); (case hx => rfl); (case hT => decide +kernel); (case hi => rfl); (case hn => omega); (case hm => rfl); (case hv => rfl))
              | ((with_reducible apply wps_loada_el S 2 (hj := Ha.out) (q := 0) (vs := [.int .i64 a.ev.key.at_, .int .i64 a.ev.key.src, .int .i64 a.ev.key.sent, .int .i64 a.ev.key.no, .int .i64 a.ev.dst, .int .i64 a.ev.kind, .int .i64 a.ev.data]) (m := 7)); (case hx => rfl); (case hT => decide +kernel); (case hi => rfl); (case hn => omega); (case hm => rfl); (case hv => rfl))
              | ((with_reducible apply wps_load_own boolE_len S 2 (hj := Hm.out) (q := 0) (u := .bool false)); (case hx => rfl); (case hi => rfl); (case hn => omega); (case hT => decide +kernel); (case hu => rfl))
              | ((with_reducible apply wps_storea (T := 72) S 0 (vs := [.int .i64 a.ev.key.at_, .int .i64 a.ev.key.src, .int .i64 a.ev.key.sent, .int .i64 a.ev.key.no, .int .i64 a.ev.dst, .int .i64 a.ev.kind, .int .i64 a.ev.data, .bool a.anti]) (m := 8)); (case hx => rfl); (case hy => rfl); (case hi => rfl); (case hT => decide +kernel); (case hm => rfl); (case h1 => rfl); (case hn => exact Nat.le_of_ble_eq_true rfl); clear S; intro wz S; simp only [List.set_cons_zero, List.set_cons_succ, setAll, List.setIfInBounds_toArray] at S)
              | ((with_reducible apply wps_build1a (T := 68) (E := 72) S); (case hx => rfl); (case hr => intro w; kernel_rfl); clear S; intro bz wz S)
              | ((with_reducible apply wps_append1 elem_Msg mcells mone (by decide) S 2 (j := 0) (e := a)); (case hx => rfl); (case hy => rfl); (case hi => rfl); (case hj => rfl); (case he => rfl); (case hl => first | omega | (simp; omega)); clear S; intro az nz cz wz hnz S; simp only [List.set_cons_succ, List.set_cons_zero] at S)
              | ((with_reducible refine tot_done ?ht ?_); (case ht => kernel_rfl))
              | ((with_reducible apply wps_text S); (case hm => kernel_rfl); (case hB => decide +kernel); clear S; intro wz S)
              | ((with_reducible apply wps_alloca (E := 72) S); (case hz => exact Try.zeroValue72); clear S; intro bz wz S)
              | ((with_reducible apply wps_load S 0); (case hx => rfl); (case hi => rfl); (case hT => decide +kernel); (case hu => rfl))
              | ((with_reducible apply wps_loada (T := 30) (k := 7) S 0); (case hx => rfl); (case hi => rfl); (case hT => decide +kernel); (case hk => exact Nat.le_of_ble_eq_true rfl))
              | ((with_reducible apply wps_loada (T := 72) (k := 8) S 0); (case hx => rfl); (case hi => rfl); (case hT => decide +kernel); (case hk => exact Nat.le_of_ble_eq_true rfl))
              | ((with_reducible apply wps_load S 1); (case hx => rfl); (case hi => rfl); (case hT => decide +kernel); (case hu => rfl))
              | ((with_reducible apply wps_loada (T := 30) (k := 7) S 1); (case hx => rfl); (case hi => rfl); (case hT => decide +kernel); (case hk => exact Nat.le_of_ble_eq_true rfl))
              | ((with_reducible apply wps_loada (T := 72) (k := 8) S 1); (case hx => rfl); (case hi => rfl); (case hT => decide +kernel); (case hk => exact Nat.le_of_ble_eq_true rfl))
              | ((with_reducible apply wps_load S 2); (case hx => rfl); (case hi => rfl); (case hT => decide +kernel); (case hu => rfl))
              | ((with_reducible apply wps_loada (T := 30) (k := 7) S 2); (case hx => rfl); (case hi => rfl); (case hT => decide +kernel); (case hk => exact Nat.le_of_ble_eq_true rfl))
              | ((with_reducible apply wps_loada (T := 72) (k := 8) S 2); (case hx => rfl); (case hi => rfl); (case hT => decide +kernel); (case hk => exact Nat.le_of_ble_eq_true rfl))
              | ((with_reducible apply wps_load S 3); (case hx => rfl); (case hi => rfl); (case hT => decide +kernel); (case hu => rfl))
              | ((with_reducible apply wps_loada (T := 30) (k := 7) S 3); (case hx => rfl); (case hi => rfl); (case hT => decide +kernel); (case hk => exact Nat.le_of_ble_eq_true rfl))
              | ((with_reducible apply wps_loada (T := 72) (k := 8) S 3); (case hx => rfl); (case hi => rfl); (case hT => decide +kernel); (case hk => exact Nat.le_of_ble_eq_true rfl))
            go_roundw
            case rel => exact ⟨j + 1, by omega, by go_num, by rw [HA.out]; exact S.pick [2, 3, 4] rfl⟩
            case measure => simp [intOf]; omega
        · obtain rfl : j = l.length := by omega
          obtain ⟨F0, hF0⟩ := S.get (i := 0) rfl
          obtain ⟨ad0, c0, rfl⟩ := hF0.1.form
          clear hF0
          go_wp2_with first
            | go_skip
            | ((with_reducible refine wpList_skip ?hw ?_); (case hw => with_unfolding_all rfl); simp only [Act.put, List.setIfInBounds_toArray, List.set_cons_succ, List.set_cons_zero])
            | ((with_reducible refine tot_done ?ht ?_); (case ht => kernel_rfl))
            | ((with_reducible apply wps_text S); (case hm => kernel_rfl); (case hB => decide +kernel); clear S; intro wz S)
            | ((with_reducible apply wps_alloca (E := 72) S); (case hz => exact Try.zeroValue72); clear S; intro bz wz S)
            | ((with_reducible apply wps_load S 0); (case hx => rfl); (case hi => rfl); (case hT => decide +kernel); (case hu => rfl))
            | ((with_reducible apply wps_loada (T := 30) (k := 7) S 0); (case hx => rfl); (case hi => rfl); (case hT => decide +kernel); (case hk => exact Nat.le_of_ble_eq_true rfl))
            | ((with_reducible apply wps_loada (T := 72) (k := 8) S 0); (case hx => rfl); (case hi => rfl); (case hT => decide +kernel); (case hk => exact Nat.le_of_ble_eq_true rfl))
            | ((with_reducible apply wps_load S 1); (case hx => rfl); (case hi => rfl); (case hT => decide +kernel); (case hu => rfl))
            | ((with_reducible apply wps_loada (T := 30) (k := 7) S 1); (case hx => rfl); (case hi => rfl); (case hT => decide +kernel); (case hk => exact Nat.le_of_ble_eq_true rfl))
            | ((with_reducible apply wps_loada (T := 72) (k := 8) S 1); (case hx => rfl); (case hi => rfl); (case hT => decide +kernel); (case hk => exact Nat.le_of_ble_eq_true rfl))
            | ((with_reducible apply wps_load S 2); (case hx => rfl); (case hi => rfl); (case hT => decide +kernel); (case hu => rfl))
            | ((with_reducible apply wps_loada (T := 30) (k := 7) S 2); (case hx => rfl); (case hi => rfl); (case hT => decide +kernel); (case hk => exact Nat.le_of_ble_eq_true rfl))
            | ((with_reducible apply wps_loada (T := 72) (k := 8) S 2); (case hx => rfl); (case hi => rfl); (case hT => decide +kernel); (case hk => exact Nat.le_of_ble_eq_true rfl))
            | ((with_reducible apply wps_load S 3); (case hx => rfl); (case hi => rfl); (case hT => decide +kernel); (case hu => rfl))
            | ((with_reducible apply wps_loada (T := 30) (k := 7) S 3); (case hx => rfl); (case hi => rfl); (case hT => decide +kernel); (case hk => exact Nat.le_of_ble_eq_true rfl))
            | ((with_reducible apply wps_loada (T := 72) (k := 8) S 3); (case hx => rfl); (case hi => rfl); (case hT => decide +kernel); (case hk => exact Nat.le_of_ble_eq_true rfl))
          go_ret2
          exact .inr ⟨HD.out.1, ad0, c0, rfl, S.pick [0] rfl⟩
end Go.Proofs.Ytcbdacmdmaoegaa

import Derived.Test.YtejdfgonkfgnfaaK7
/- The walk of keys.Least. -/
namespace Go.Proofs.Ytejdfgonkfgnfaa
open Go Go.RowKit Reg Mem

/-- The least of the first i, from the first one on. -/
def minTo (f : Message → Int) (l : List Message) (x : Int) : Nat → Int
  | 0 => x
  | i + 1 => match l[i]? with | some a => min (minTo f l x i) (f a) | none => minTo f l x i
theorem minTo_step {f : Message → Int} {l : List Message} {x : Int} {i : Nat} {a : Message} (h : l[i]? = some a) : minTo f l x (i + 1) = min (minTo f l x i) (f a) := by simp [minTo, h]
theorem minTo_le {f : Message → Int} {l : List Message} {x : Int} {n : Nat} : ∀ (i : Nat) a, i < n → l[i]? = some a → minTo f l x n ≤ f a := by
  induction n with
  | zero => intro i a h; omega
  | succ n ih =>
    intro i a hi ha
    unfold minTo
    by_cases e : i = n
    · subst e; rw [ha]; exact Int.min_le_right _ _
    · have := ih i a (by omega) ha
      cases hn : l[n]? with
      | none => simpa using this
      | some b => exact Int.le_trans (Int.min_le_left _ _) this
theorem minTo_mem {f : Message → Int} {l : List Message} {x : Int} {n : Nat} : minTo f l x n = x ∨ ∃ (i : Nat) (a : Message), i < n ∧ l[i]? = some a ∧ minTo f l x n = f a := by
  induction n with
  | zero => exact .inl rfl
  | succ n ih =>
    unfold minTo
    cases hn : l[n]? with
    | none =>
      rcases ih with h | ⟨i, a, h1, h2, h3⟩
      · exact .inl h
      · exact .inr ⟨i, a, by omega, h2, h3⟩
    | some b =>
      simp only []
      by_cases hle : minTo f l x n ≤ f b
      · rw [Int.min_eq_left hle]
        rcases ih with h | ⟨i, a, h1, h2, h3⟩
        · exact .inl h
        · exact .inr ⟨i, a, by omega, h2, h3⟩
      · exact .inr ⟨n, b, by omega, hn, Int.min_eq_right (by omega)⟩
def leastAt (l : List Message) : Int := match l with | a :: _ => minTo (fun m => m.ev.key.at_) l a.ev.key.at_ l.length | [] => 0
def leastSent (l : List Message) : Int := match l with | a :: _ => minTo (fun m => m.ev.key.sent) l a.ev.key.sent l.length | [] => 0
def LeastRel (ad : Option Addr) (cp : Nat) (l : List Message) (x y : Int) (w : World) (u v i : Value) (wr : World) : Prop :=
  ∃ j : Nat, j ≤ l.length ∧ u = .int .i64 (minTo (fun m => m.ev.key.at_) l x j) ∧ v = .int .i64 (minTo (fun m => m.ev.key.sent) l y j) ∧ i = .int .i64 j ∧ St (fun _ => False) w wr [Sl true Message.cells 8 (.slice ad l.length cp) l]
theorem least_none (v : Value) (w : World) (F : Nat → Prop) (h : (Sl true Message.cells 8 v []).at_ w F) : Calls Try.prog 17 #[v] w fun r w' => r = .returned (.tuple #[.int .i64 0, .int .i64 0, .int .i64 14]) ∧ Below w.heap.size w w' := by
  have S : St (fun _ => False) w w [Sl true Message.cells 8 v []] := (St.init _ w).share rfl rfl h
  obtain ⟨ad, cp, rfl, _⟩ := (S.sl 0 rfl).elim fun _ h => h.form
  clear h
  simp only [List.length_nil] at S
  go_enter Try.func17, Try.ntmps17
  go_wp2_with first
    | ((with_reducible refine tot_done ?ht ?_); (case ht => kernel_rfl))
    | ((with_reducible apply wps_text S); (case hm => kernel_rfl); (case hB => decide +kernel); clear S; intro wz S)
    | ((with_reducible apply wps_alloca (E := 34) S); (case hz => exact Try.zeroValue34); clear S; intro bz wz S)
    | ((with_reducible apply wps_load S 0); (case hx => rfl); (case hi => rfl); (case hT => decide +kernel); (case hu => rfl))
    | ((with_reducible apply wps_loada (T := 34) (k := 8) S 0); (case hx => rfl); (case hi => rfl); (case hT => decide +kernel); (case hk => exact Nat.le_of_ble_eq_true rfl))
    | ((with_reducible apply wps_load S 1); (case hx => rfl); (case hi => rfl); (case hT => decide +kernel); (case hu => rfl))
    | ((with_reducible apply wps_loada (T := 34) (k := 8) S 1); (case hx => rfl); (case hi => rfl); (case hT => decide +kernel); (case hk => exact Nat.le_of_ble_eq_true rfl))
    | ((with_reducible apply wps_load S 2); (case hx => rfl); (case hi => rfl); (case hT => decide +kernel); (case hu => rfl))
    | ((with_reducible apply wps_loada (T := 34) (k := 8) S 2); (case hx => rfl); (case hi => rfl); (case hT => decide +kernel); (case hk => exact Nat.le_of_ble_eq_true rfl))
    | ((with_reducible apply wps_load S 3); (case hx => rfl); (case hi => rfl); (case hT => decide +kernel); (case hu => rfl))
    | ((with_reducible apply wps_loada (T := 34) (k := 8) S 3); (case hx => rfl); (case hi => rfl); (case hT => decide +kernel); (case hk => exact Nat.le_of_ble_eq_true rfl))
  go_ret3
  exact ⟨rfl, S.below⟩
set_option maxRecDepth 100000 in
set_option maxHeartbeats 4000000 in
theorem least_calls (v : Value) (a0 : Message) (l0 : List Message) (w : World) (F : Nat → Prop) (h : (Sl true Message.cells 8 v (a0 :: l0)).at_ w F) (hn : (a0 :: l0).length ≤ 65536) :
    Calls Try.prog 17 #[v] w fun r w' => r = .returned (.tuple #[.int .i64 (leastAt (a0 :: l0)), .int .i64 (leastSent (a0 :: l0)), .int .i64 0]) ∧ Below w.heap.size w w' := by
  have S : St (fun _ => False) w w [Sl true Message.cells 8 v (a0 :: l0)] := (St.init _ w).share rfl rfl h
  clear h
  simp only [leastAt, leastSent]
  have h0 : (a0 :: l0)[0]? = some a0 := rfl
  have hl0 : 0 < (a0 :: l0).length := by simp
  generalize a0 :: l0 = l at *
  obtain ⟨ad, cp, rfl, _⟩ := (S.sl 0 rfl).elim fun _ h => h.form
  obtain ⟨R, o, rfl⟩ : ∃ R o, ad = some ⟨R, o, none⟩ := (S.sl 0 rfl).elim fun F h => h.head hl0
  have hl1 : (0 : Int) < l.length := by omega
  have hl2 : ((l.length : Int) == 0) = false := beq_eq_false_iff_ne.2 (by omega)
  have hl3 : ¬ (l.length : Int) = 0 := by omega
  have H0 := Lib.hid h0
  clear h0
  go_enter Try.func17, Try.ntmps17
  go_wp2_with first
    | ((with_reducible apply wps_loada_el S 0 (hj := H0.out) (q := 0) (vs := [.int .i64 a0.ev.key.at_, .int .i64 a0.ev.key.src, .int .i64 a0.ev.key.sent, .int .i64 a0.ev.key.no, .int .i64 a0.ev.dst, .int .i64 a0.ev.kind, .int .i64 a0.ev.data, .bool a0.anti]) (m := 8)); (case hx => rfl); (case hT => decide +kernel); (case hi => rfl); (case hn => omega); (case hm => rfl); (case hv => rfl))
    | ((with_reducible apply wps_loada_el S 0 (hj := H0.out) (q := 0) (vs := [.int .i64 a0.ev.key.at_, .int .i64 a0.ev.key.src, .int .i64 a0.ev.key.sent, .int .i64 a0.ev.key.no, .int .i64 a0.ev.dst, .int .i64 a0.ev.kind, .int .i64 a0.ev.data]) (m := 7)); (case hx => rfl); (case hT => decide +kernel); (case hi => rfl); (case hn => omega); (case hm => rfl); (case hv => rfl))
    | ((with_reducible apply wps_loada_el S 0 (hj := H0.out) (q := 0) (vs := [.int .i64 a0.ev.key.at_, .int .i64 a0.ev.key.src, .int .i64 a0.ev.key.sent, .int .i64 a0.ev.key.no]) (m := 4)); (case hx => rfl); (case hT => decide +kernel); (case hi => rfl); (case hn => omega); (case hm => rfl); (case hv => rfl))
    | ((with_reducible apply wps_load_el S 0 (hj := H0.out) (q := 0) (u := .int .i64 a0.ev.key.at_)); (case hx => rfl); (case hi => rfl); (case hn => omega); (case hT => decide +kernel); (case hu => rfl))
    | ((with_reducible apply wps_load_el S 0 (hj := H0.out) (q := 1) (u := .int .i64 a0.ev.key.src)); (case hx => rfl); (case hi => rfl); (case hn => omega); (case hT => decide +kernel); (case hu => rfl))
    | ((with_reducible apply wps_load_el S 0 (hj := H0.out) (q := 2) (u := .int .i64 a0.ev.key.sent)); (case hx => rfl); (case hi => rfl); (case hn => omega); (case hT => decide +kernel); (case hu => rfl))
    | ((with_reducible apply wps_load_el S 0 (hj := H0.out) (q := 3) (u := .int .i64 a0.ev.key.no)); (case hx => rfl); (case hi => rfl); (case hn => omega); (case hT => decide +kernel); (case hu => rfl))
    | ((with_reducible apply wps_load_el S 0 (hj := H0.out) (q := 4) (u := .int .i64 a0.ev.dst)); (case hx => rfl); (case hi => rfl); (case hn => omega); (case hT => decide +kernel); (case hu => rfl))
    | ((with_reducible apply wps_load_el S 0 (hj := H0.out) (q := 5) (u := .int .i64 a0.ev.kind)); (case hx => rfl); (case hi => rfl); (case hn => omega); (case hT => decide +kernel); (case hu => rfl))
    | ((with_reducible apply wps_load_el S 0 (hj := H0.out) (q := 6) (u := .int .i64 a0.ev.data)); (case hx => rfl); (case hi => rfl); (case hn => omega); (case hT => decide +kernel); (case hu => rfl))
    | ((with_reducible apply wps_load_el S 0 (hj := H0.out) (q := 7) (u := .bool a0.anti)); (case hx => rfl); (case hi => rfl); (case hn => omega); (case hT => decide +kernel); (case hu => rfl))
    | ((with_reducible refine tot_done ?ht ?_); (case ht => kernel_rfl))
    | ((with_reducible apply wps_text S); (case hm => kernel_rfl); (case hB => decide +kernel); clear S; intro wz S)
    | ((with_reducible apply wps_alloca (E := 34) S); (case hz => exact Try.zeroValue34); clear S; intro bz wz S)
    | ((with_reducible apply wps_load S 0); (case hx => rfl); (case hi => rfl); (case hT => decide +kernel); (case hu => rfl))
    | ((with_reducible apply wps_loada (T := 34) (k := 8) S 0); (case hx => rfl); (case hi => rfl); (case hT => decide +kernel); (case hk => exact Nat.le_of_ble_eq_true rfl))
    | ((with_reducible apply wps_load S 1); (case hx => rfl); (case hi => rfl); (case hT => decide +kernel); (case hu => rfl))
    | ((with_reducible apply wps_loada (T := 34) (k := 8) S 1); (case hx => rfl); (case hi => rfl); (case hT => decide +kernel); (case hk => exact Nat.le_of_ble_eq_true rfl))
    | ((with_reducible apply wps_load S 2); (case hx => rfl); (case hi => rfl); (case hT => decide +kernel); (case hu => rfl))
    | ((with_reducible apply wps_loada (T := 34) (k := 8) S 2); (case hx => rfl); (case hi => rfl); (case hT => decide +kernel); (case hk => exact Nat.le_of_ble_eq_true rfl))
    | ((with_reducible apply wps_load S 3); (case hx => rfl); (case hi => rfl); (case hT => decide +kernel); (case hu => rfl))
    | ((with_reducible apply wps_loada (T := 34) (k := 8) S 3); (case hx => rfl); (case hi => rfl); (case hT => decide +kernel); (case hk => exact Nat.le_of_ble_eq_true rfl))
  go_loopw [2, 3, 24] (fun u v i wr => LeastRel (some ⟨R, o, none⟩) cp l a0.ev.key.at_ a0.ev.key.sent w u v i wr) (fun _ _ i _ => l.length - (intOf i).toNat)
  case atStart => exact ⟨0, Nat.zero_le _, rfl, rfl, rfl, S⟩
  case round =>
    clear S
    obtain ⟨j, hj, rfl, rfl, rfl, S⟩ := hrel
    by_cases hlt : j < l.length
    · obtain ⟨a, ha⟩ : ∃ a, l[j]? = some a := ⟨_, List.getElem?_eq_getElem hlt⟩
      have hlt2 : (j : Int) < l.length := by omega
      have H1 := Lib.hid (minTo_step (f := fun m => m.ev.key.at_) (x := a0.ev.key.at_) ha)
      have H2 := Lib.hid (minTo_step (f := fun m => m.ev.key.sent) (x := a0.ev.key.sent) ha)
      generalize hx : minTo (fun m => m.ev.key.at_) l a0.ev.key.at_ j = x at *
      generalize hy : minTo (fun m => m.ev.key.sent) l a0.ev.key.sent j = y at *
      clear hx hy
      have Ha := Lib.hid ha
      clear ha
      go_wp2_with first
        | ((with_reducible apply wps_loada_el S 0 (hj := Ha.out) (q := 0) (vs := [.int .i64 a.ev.key.at_, .int .i64 a.ev.key.src, .int .i64 a.ev.key.sent, .int .i64 a.ev.key.no, .int .i64 a.ev.dst, .int .i64 a.ev.kind, .int .i64 a.ev.data, .bool a.anti]) (m := 8)); (case hx => rfl); (case hT => decide +kernel); (case hi => rfl); (case hn => omega); (case hm => rfl); (case hv => rfl))
        | ((with_reducible apply wps_loada_el S 0 (hj := Ha.out) (q := 0) (vs := [.int .i64 a.ev.key.at_, .int .i64 a.ev.key.src, .int .i64 a.ev.key.sent, .int .i64 a.ev.key.no, .int .i64 a.ev.dst, .int .i64 a.ev.kind, .int .i64 a.ev.data]) (m := 7)); (case hx => rfl); (case hT => decide +kernel); (case hi => rfl); (case hn => omega); (case hm => rfl); (case hv => rfl))
        | ((with_reducible apply wps_loada_el S 0 (hj := Ha.out) (q := 0) (vs := [.int .i64 a.ev.key.at_, .int .i64 a.ev.key.src, .int .i64 a.ev.key.sent, .int .i64 a.ev.key.no]) (m := 4)); (case hx => rfl); (case hT => decide +kernel); (case hi => rfl); (case hn => omega); (case hm => rfl); (case hv => rfl))
        | ((with_reducible apply wps_load_el S 0 (hj := Ha.out) (q := 0) (u := .int .i64 a.ev.key.at_)); (case hx => rfl); (case hi => rfl); (case hn => omega); (case hT => decide +kernel); (case hu => rfl))
        | ((with_reducible apply wps_load_el S 0 (hj := Ha.out) (q := 1) (u := .int .i64 a.ev.key.src)); (case hx => rfl); (case hi => rfl); (case hn => omega); (case hT => decide +kernel); (case hu => rfl))
        | ((with_reducible apply wps_load_el S 0 (hj := Ha.out) (q := 2) (u := .int .i64 a.ev.key.sent)); (case hx => rfl); (case hi => rfl); (case hn => omega); (case hT => decide +kernel); (case hu => rfl))
        | ((with_reducible apply wps_load_el S 0 (hj := Ha.out) (q := 3) (u := .int .i64 a.ev.key.no)); (case hx => rfl); (case hi => rfl); (case hn => omega); (case hT => decide +kernel); (case hu => rfl))
        | ((with_reducible apply wps_load_el S 0 (hj := Ha.out) (q := 4) (u := .int .i64 a.ev.dst)); (case hx => rfl); (case hi => rfl); (case hn => omega); (case hT => decide +kernel); (case hu => rfl))
        | ((with_reducible apply wps_load_el S 0 (hj := Ha.out) (q := 5) (u := .int .i64 a.ev.kind)); (case hx => rfl); (case hi => rfl); (case hn => omega); (case hT => decide +kernel); (case hu => rfl))
        | ((with_reducible apply wps_load_el S 0 (hj := Ha.out) (q := 6) (u := .int .i64 a.ev.data)); (case hx => rfl); (case hi => rfl); (case hn => omega); (case hT => decide +kernel); (case hu => rfl))
        | ((with_reducible apply wps_load_el S 0 (hj := Ha.out) (q := 7) (u := .bool a.anti)); (case hx => rfl); (case hi => rfl); (case hn => omega); (case hT => decide +kernel); (case hu => rfl))
        | ((with_reducible apply wps_storea (T := 34) S 0 (vs := [.int .i64 a.ev.key.at_, .int .i64 a.ev.key.src, .int .i64 a.ev.key.sent, .int .i64 a.ev.key.no, .int .i64 a.ev.dst, .int .i64 a.ev.kind, .int .i64 a.ev.data, .bool a.anti]) (m := 8)); (case hx => rfl); (case hy => rfl); (case hi => rfl); (case hT => decide +kernel); (case hm => rfl); (case h1 => rfl); (case hn => exact Nat.le_of_ble_eq_true rfl); clear S; intro wz S; simp only [List.set_cons_zero, List.set_cons_succ, setAll, List.setIfInBounds_toArray] at S)
        | ((with_reducible refine tot_done ?ht ?_); (case ht => kernel_rfl))
        | ((with_reducible apply wps_text S); (case hm => kernel_rfl); (case hB => decide +kernel); clear S; intro wz S)
        | ((with_reducible apply wps_alloca (E := 34) S); (case hz => exact Try.zeroValue34); clear S; intro bz wz S)
        | ((with_reducible apply wps_load S 0); (case hx => rfl); (case hi => rfl); (case hT => decide +kernel); (case hu => rfl))
        | ((with_reducible apply wps_loada (T := 34) (k := 8) S 0); (case hx => rfl); (case hi => rfl); (case hT => decide +kernel); (case hk => exact Nat.le_of_ble_eq_true rfl))
        | ((with_reducible apply wps_load S 1); (case hx => rfl); (case hi => rfl); (case hT => decide +kernel); (case hu => rfl))
        | ((with_reducible apply wps_loada (T := 34) (k := 8) S 1); (case hx => rfl); (case hi => rfl); (case hT => decide +kernel); (case hk => exact Nat.le_of_ble_eq_true rfl))
        | ((with_reducible apply wps_load S 2); (case hx => rfl); (case hi => rfl); (case hT => decide +kernel); (case hu => rfl))
        | ((with_reducible apply wps_loada (T := 34) (k := 8) S 2); (case hx => rfl); (case hi => rfl); (case hT => decide +kernel); (case hk => exact Nat.le_of_ble_eq_true rfl))
        | ((with_reducible apply wps_load S 3); (case hx => rfl); (case hi => rfl); (case hT => decide +kernel); (case hu => rfl))
        | ((with_reducible apply wps_loada (T := 34) (k := 8) S 3); (case hx => rfl); (case hi => rfl); (case hT => decide +kernel); (case hk => exact Nat.le_of_ble_eq_true rfl))
      (refine wp_region_w (soft := [0, 1, 2, 3, 4, 5, 6, 7, 8, 9, 10, 11, 12, 13]) S ?hm ?hB ?_); (case hm => kernel_rfl); (case hB => decide +kernel); clear S
      iterate 14
        (with_reducible apply softs_cons)
        (case hw =>
          (with_reducible apply soft_of); (case hi => rfl)
          intro T wz S
          simp only [List.cons_append, List.nil_append] at S
          go_wp2_with first
            | ((with_reducible refine tot_done ?ht ?_); (case ht => kernel_rfl))
            | ((with_reducible apply wps_alloca (E := 34) S); (case hz => exact Try.zeroValue34); clear S; intro bz wz S)
            | ((with_reducible apply wps_load S 0); (case hx => rfl); (case hi => rfl); (case hT => decide +kernel); (case hu => rfl))
            | ((with_reducible apply wps_loada (T := 34) (k := 8) S 0); (case hx => rfl); (case hi => rfl); (case hT => decide +kernel); (case hk => exact Nat.le_of_ble_eq_true rfl))
          exact ⟨rfl, S⟩)
        (case hs => exact ⟨_, rfl, by kernel_rfl⟩)
      refine softs_nil ?_
      (with_reducible apply W_done); (case hn => rfl); (case hr => decide +kernel)
      intro wz S
      simp only [List.append_nil] at S
      go_wp2_with first
        | ((with_reducible refine tot_done ?ht ?_); (case ht => kernel_rfl))
        | ((with_reducible apply wps_text S); (case hm => kernel_rfl); (case hB => decide +kernel); clear S; intro wz S)
        | ((with_reducible apply wps_alloca (E := 34) S); (case hz => exact Try.zeroValue34); clear S; intro bz wz S)
        | ((with_reducible apply wps_load S 0); (case hx => rfl); (case hi => rfl); (case hT => decide +kernel); (case hu => rfl))
        | ((with_reducible apply wps_loada (T := 34) (k := 8) S 0); (case hx => rfl); (case hi => rfl); (case hT => decide +kernel); (case hk => exact Nat.le_of_ble_eq_true rfl))
        | ((with_reducible apply wps_load S 1); (case hx => rfl); (case hi => rfl); (case hT => decide +kernel); (case hu => rfl))
        | ((with_reducible apply wps_loada (T := 34) (k := 8) S 1); (case hx => rfl); (case hi => rfl); (case hT => decide +kernel); (case hk => exact Nat.le_of_ble_eq_true rfl))
        | ((with_reducible apply wps_load S 2); (case hx => rfl); (case hi => rfl); (case hT => decide +kernel); (case hu => rfl))
        | ((with_reducible apply wps_loada (T := 34) (k := 8) S 2); (case hx => rfl); (case hi => rfl); (case hT => decide +kernel); (case hk => exact Nat.le_of_ble_eq_true rfl))
        | ((with_reducible apply wps_load S 3); (case hx => rfl); (case hi => rfl); (case hT => decide +kernel); (case hu => rfl))
        | ((with_reducible apply wps_loada (T := 34) (k := 8) S 3); (case hx => rfl); (case hi => rfl); (case hT => decide +kernel); (case hk => exact Nat.le_of_ble_eq_true rfl))
      go_roundw
      case rel => exact ⟨j + 1, by omega, by rw [H1.out], by rw [H2.out], by go_num, S.tail⟩
      case measure => simp [intOf]; omega
    · obtain rfl : j = l.length := by omega
      go_wp2_with first
        | ((with_reducible refine tot_done ?ht ?_); (case ht => kernel_rfl))
        | ((with_reducible apply wps_text S); (case hm => kernel_rfl); (case hB => decide +kernel); clear S; intro wz S)
        | ((with_reducible apply wps_alloca (E := 34) S); (case hz => exact Try.zeroValue34); clear S; intro bz wz S)
        | ((with_reducible apply wps_load S 0); (case hx => rfl); (case hi => rfl); (case hT => decide +kernel); (case hu => rfl))
        | ((with_reducible apply wps_loada (T := 34) (k := 8) S 0); (case hx => rfl); (case hi => rfl); (case hT => decide +kernel); (case hk => exact Nat.le_of_ble_eq_true rfl))
        | ((with_reducible apply wps_load S 1); (case hx => rfl); (case hi => rfl); (case hT => decide +kernel); (case hu => rfl))
        | ((with_reducible apply wps_loada (T := 34) (k := 8) S 1); (case hx => rfl); (case hi => rfl); (case hT => decide +kernel); (case hk => exact Nat.le_of_ble_eq_true rfl))
        | ((with_reducible apply wps_load S 2); (case hx => rfl); (case hi => rfl); (case hT => decide +kernel); (case hu => rfl))
        | ((with_reducible apply wps_loada (T := 34) (k := 8) S 2); (case hx => rfl); (case hi => rfl); (case hT => decide +kernel); (case hk => exact Nat.le_of_ble_eq_true rfl))
        | ((with_reducible apply wps_load S 3); (case hx => rfl); (case hi => rfl); (case hT => decide +kernel); (case hu => rfl))
        | ((with_reducible apply wps_loada (T := 34) (k := 8) S 3); (case hx => rfl); (case hi => rfl); (case hT => decide +kernel); (case hk => exact Nat.le_of_ble_eq_true rfl))
      go_ret3
      exact ⟨rfl, S.below⟩
end Go.Proofs.Ytejdfgonkfgnfaa

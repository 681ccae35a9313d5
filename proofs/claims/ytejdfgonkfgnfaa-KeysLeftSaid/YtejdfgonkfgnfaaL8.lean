import Derived.Test.YtejdfgonkfgnfaaLeftP
import Derived.Test.YtejdfgonkfgnfaaL4
/- The walk of the law KeysLeft. -/
namespace Go.Proofs.Ytejdfgonkfgnfaa
open Go Go.RowKit Reg Mem

/-- The list from a place on, going round. -/
def rot (l : List Message) (r : Nat) : List Message := l.drop r ++ l.take r
theorem rot_perm (l : List Message) (r : Nat) : (rot l r).Perm l := List.perm_append_comm.trans (by rw [List.take_append_drop])
theorem bad_rot (l : List Message) (r : Nat) : Bad (rot l r) ↔ Bad l := by
  rw [← Classical.not_not (a := Bad (rot l r)), good_iff, good_perm (rot_perm l r), ← good_iff, Classical.not_not]
theorem rot_len (l : List Message) (r : Nat) : (rot l r).length = l.length := (rot_perm l r).length_eq
theorem rot_get {l : List Message} {r i : Nat} (hr : r < l.length) (hi : i < l.length) : (rot l r)[i]? = l[(r + i) % l.length]? := by
  unfold rot
  by_cases h : r + i < l.length
  · rw [List.getElem?_append_left (by simp; omega), List.getElem?_drop, Nat.mod_eq_of_lt h]
  · rw [List.getElem?_append_right (by simp; omega), List.getElem?_take_of_lt (by simp; omega)]
    rw [show (r + i) % l.length = r + i - l.length by rw [Nat.mod_eq_sub_mod (by omega), Nat.mod_eq_of_lt (by omega)]]
    congr 1; simp; omega
def RotRel1 (ad : Option Addr) (cp : Nat) (l t : List Message) (va : Value) (xs : List Message) (w : World) (out i : Value) (wr : World) : Prop :=
  ∃ (j : Nat), j ≤ l.length ∧ i = .int .i64 j ∧ St (fun _ => False) w wr [Own 34 Message.cells 8 out (t.take j), Sl true Message.cells 8 va xs, Sl true Message.cells 8 (.slice ad l.length cp) l]
def LRel2 (vl va vb : Value) (l xs ys : List Message) (w : World) (i : Value) (wr : World) : Prop :=
  ∃ (j : Nat), j ≤ xs.length ∧ i = .int .i64 j ∧ St (fun _ => False) w wr [Sl true Message.cells 8 vb ys, Sl true Message.cells 8 va xs, Sl true Message.cells 8 vl l]
def LRel3 (vl va vb : Value) (l xs ys : List Message) (a : Message) (w : World) (p i : Value) (wr : World) : Prop :=
  ∃ (j : Nat), j ≤ xs.length ∧ i = .int .i64 j ∧ p = .bool ((ys.take j).any fun b => decide (a = b)) ∧ St (fun _ => False) w wr [Sl true Message.cells 8 vb ys, Sl true Message.cells 8 va xs, Sl true Message.cells 8 vl l]
theorem message_ceqs (a b : Message) : ceqs a.cells b.cells = decide (a = b) := by simpa using message_nceqs a b
theorem anym_step {l : List Message} {p : Message → Bool} {j : Nat} {a : Message} (ha : l[j]? = some a) : (l.take (j + 1)).any p = ((l.take j).any p || p a) := by
  rw [List.take_add_one, ha]; simp
set_option maxRecDepth 100000 in
set_option maxHeartbeats 16000000 in
theorem kleft_calls (v : Value) (l : List Message) (from_ n : Int) (w : World) (F : Nat → Prop) (h : (Sl true Message.cells 8 v l).at_ w F) : Calls Try.prog 4 #[v, .int .i64 from_, .int .i64 n] w fun r w' => r = .returned (.bool true) ∧ Below w.heap.size w w' := by
  have S : St (fun _ => False) w w [Sl true Message.cells 8 v l] := (St.init _ w).share rfl rfl h
  obtain ⟨ad, cp, rfl, _⟩ := (S.sl 0 rfl).elim fun _ h => h.form
  clear h
  by_cases g1 : (40 : Int) < l.length
  · go_enter Try.func4, Try.ntmps4
    go_wp2_with first
      | go_skip
      | ((with_reducible refine wpList_skip ?hw ?_); (case hw => with_unfolding_all rfl); simp only [Act.put, List.setIfInBounds_toArray, List.set_cons_succ, List.set_cons_zero])
      | (go_at_call 12; refine Calls.mono (awake_calls _) ?_; rintro e wz ⟨rfl, hE⟩; replace S := S.ext (Keep.of_below hE); clear hE)
      | ((with_reducible refine tot_done ?ht ?_); (case ht => kernel_rfl))
      | ((with_reducible apply wps_text S); (case hm => kernel_rfl); (case hB => decide +kernel); clear S; intro wz S)
      | ((with_reducible apply wps_loada (T := 34) (k := 8) S 0); (case hx => rfl); (case hi => rfl); (case hT => decide +kernel); (case hk => exact Nat.le_of_ble_eq_true rfl))
    go_ret
    exact ⟨by simp, S.below⟩
  by_cases g2 : n < 0
  · go_enter Try.func4, Try.ntmps4
    go_wp2_with first
      | go_skip
      | ((with_reducible refine wpList_skip ?hw ?_); (case hw => with_unfolding_all rfl); simp only [Act.put, List.setIfInBounds_toArray, List.set_cons_succ, List.set_cons_zero])
      | (go_at_call 12; refine Calls.mono (awake_calls _) ?_; rintro e wz ⟨rfl, hE⟩; replace S := S.ext (Keep.of_below hE); clear hE)
      | ((with_reducible refine tot_done ?ht ?_); (case ht => kernel_rfl))
      | ((with_reducible apply wps_text S); (case hm => kernel_rfl); (case hB => decide +kernel); clear S; intro wz S)
      | ((with_reducible apply wps_loada (T := 34) (k := 8) S 0); (case hx => rfl); (case hi => rfl); (case hT => decide +kernel); (case hk => exact Nat.le_of_ble_eq_true rfl))
    go_ret
    exact ⟨by simp, S.below⟩
  by_cases g3 : (l.length : Int) < n
  · go_enter Try.func4, Try.ntmps4
    go_wp2_with first
      | go_skip
      | ((with_reducible refine wpList_skip ?hw ?_); (case hw => with_unfolding_all rfl); simp only [Act.put, List.setIfInBounds_toArray, List.set_cons_succ, List.set_cons_zero])
      | (go_at_call 12; refine Calls.mono (awake_calls _) ?_; rintro e wz ⟨rfl, hE⟩; replace S := S.ext (Keep.of_below hE); clear hE)
      | ((with_reducible refine tot_done ?ht ?_); (case ht => kernel_rfl))
      | ((with_reducible apply wps_text S); (case hm => kernel_rfl); (case hB => decide +kernel); clear S; intro wz S)
      | ((with_reducible apply wps_loada (T := 34) (k := 8) S 0); (case hx => rfl); (case hi => rfl); (case hT => decide +kernel); (case hk => exact Nat.le_of_ble_eq_true rfl))
    go_ret
    exact ⟨by simp, S.below⟩
  by_cases g4 : l.length = 0
  · obtain rfl : l = [] := List.eq_nil_of_length_eq_zero g4
    simp only [List.length_nil] at *
    go_enter Try.func4, Try.ntmps4
    go_wp2_with first
      | go_skip
      | ((with_reducible refine wpList_skip ?hw ?_); (case hw => with_unfolding_all rfl); simp only [Act.put, List.setIfInBounds_toArray, List.set_cons_succ, List.set_cons_zero])
      | (go_at_call 12; refine Calls.mono (awake_calls _) ?_; rintro e wz ⟨rfl, hE⟩; replace S := S.ext (Keep.of_below hE); clear hE)
      | ((with_reducible refine tot_done ?ht ?_); (case ht => kernel_rfl))
      | ((with_reducible apply wps_text S); (case hm => kernel_rfl); (case hB => decide +kernel); clear S; intro wz S)
      | ((with_reducible apply wps_loada (T := 34) (k := 8) S 0); (case hx => rfl); (case hi => rfl); (case hT => decide +kernel); (case hk => exact Nat.le_of_ble_eq_true rfl))
    go_ret
    exact ⟨by simp, S.below⟩
  have g4b : ((l.length : Int) == 0) = false := beq_eq_false_iff_ne.2 (by omega)
  have hl : l.length ≤ 65536 := by omega
  obtain ⟨n, rfl⟩ : ∃ k : Nat, n = k := ⟨n.toNat, by omega⟩
  obtain ⟨R, o, rfl⟩ : ∃ R o, ad = some ⟨R, o, none⟩ := (S.sl 0 rfl).elim fun F h => h.head (by omega)
  obtain ⟨f1, hf1⟩ : ∃ f, from_.tmod l.length = f := ⟨_, rfl⟩
  have hb1 : f1 < l.length := by rw [← hf1]; exact Int.tmod_lt_of_pos _ (by omega)
  have hb2 : -(l.length : Int) < f1 := by rw [← hf1]; exact Int.lt_tmod_of_pos _ (by omega)
  obtain ⟨r, hr⟩ : ∃ r : Nat, (f1 + l.length) % l.length = (r : Int) := ⟨((f1 + l.length) % l.length).toNat, by rw [Int.toNat_of_nonneg (Int.emod_nonneg _ (by omega))]⟩
  have hrl : r < l.length := by have := Int.emod_lt_of_pos (f1 + l.length) (show (0 : Int) < l.length by omega); omega
  go_enter Try.func4, Try.ntmps4
  go_wp2_with first
    | go_skip
    | ((with_reducible refine wpList_skip ?hw ?_); (case hw => with_unfolding_all rfl); simp only [Act.put, List.setIfInBounds_toArray, List.set_cons_succ, List.set_cons_zero])
    | ((with_reducible refine tot_done ?ht ?_); (case ht => kernel_rfl))
    | ((with_reducible apply wps_text S); (case hm => kernel_rfl); (case hB => decide +kernel); clear S; intro wz S)
    | ((with_reducible apply wps_loada (T := 34) (k := 8) S 0); (case hx => rfl); (case hi => rfl); (case hT => decide +kernel); (case hk => exact Nat.le_of_ble_eq_true rfl))
  refine Calls.mono (settle_calls _ l _ _ (S.get (i := 0) rfl).choose_spec hl) ?_
  intro e wz hP
  have main : ∃ (va : Value) (xs : List Message) (k : Int), e = .returned (.tuple #[va, .int .i64 k]) ∧ ((Bad l ∧ xs = [] ∧ k = 13) ∨ (¬ Bad l ∧ xs = left l ∧ k = 0)) ∧ St (fun _ => False) w wz [Sl true Message.cells 8 va xs, Sl true Message.cells 8 (.slice (some ⟨R, o, none⟩) l.length cp) l] := by
    rcases hP with ⟨hb, rfl, hE⟩ | ⟨hb, ad2, c2, rfl, T⟩
    · exact ⟨_, [], 13, rfl, .inl ⟨hb, rfl, rfl⟩, by have := ((S.ext (Keep.of_below hE)).nil 34 Message.cells 8).freeze true 0 mcells rfl; simpa using this⟩
    · exact ⟨_, left l, 0, rfl, .inr ⟨hb, rfl, rfl⟩, by have := (S.join T rfl).freeze true 0 mcells rfl; simpa using this⟩
  clear S hP
  obtain ⟨va, xs, k, rfl, hxs, S⟩ := main
  have Hxs := Lib.hid hxs
  clear hxs
  replace S := S.nil 34 Message.cells 8
  go_wp2_with first
    | go_skip
    | ((with_reducible refine wpList_skip ?hw ?_); (case hw => with_unfolding_all rfl); simp only [Act.put, List.setIfInBounds_toArray, List.set_cons_succ, List.set_cons_zero])
    | ((with_reducible refine tot_done ?ht ?_); (case ht => kernel_rfl))
    | ((with_reducible apply wps_text S); (case hm => kernel_rfl); (case hB => decide +kernel); clear S; intro wz S)
    | ((with_reducible apply wps_loada (T := 34) (k := 8) S 0); (case hx => rfl); (case hi => rfl); (case hT => decide +kernel); (case hk => exact Nat.le_of_ble_eq_true rfl))
  go_loopw [9, 10] (fun out i wr => RotRel1 (some ⟨R, o, none⟩) cp l (rot l r) va xs w out i wr) (fun _ i _ => l.length - (intOf i).toNat)
  case atStart => exact ⟨0, Nat.zero_le _, rfl, S⟩
  case round =>
    clear S
    obtain ⟨j, hj, rfl, S⟩ := hrel
    by_cases hlt : j < l.length
    · obtain ⟨F0, hF0⟩ := S.get (i := 0) rfl
      obtain ⟨ad0, c0, rfl⟩ := hF0.1.form
      clear hF0
      have hlt2 : (j : Int) < l.length := by omega
      obtain ⟨q, hq⟩ : ∃ q, q = (r + j) % l.length := ⟨_, rfl⟩
      have hql : q < l.length := by rw [hq]; exact Nat.mod_lt _ (by omega)
      have hq2 : ((r : Int) + j) % l.length = q := by rw [hq]; simp
      obtain ⟨a, ha⟩ : ∃ a, l[q]? = some a := ⟨_, List.getElem?_eq_getElem hql⟩
      have HT : Hid ((rot l r).take (j + 1) = (rot l r).take j ++ [a]) := by
        show _ = _
        rw [List.take_add_one, rot_get hrl hlt, ← hq, ha]; rfl
      have htl : ((rot l r).take j).length ≤ 65536 := by simp [rot_len]; omega
      have Ha := Lib.hid ha
      have Hq := Lib.hid hq
      clear ha hq
      go_wp2_with first
        | go_skip
        | ((with_reducible refine wpList_skip ?hw ?_); (case hw => with_unfolding_all rfl); simp only [Act.put, List.setIfInBounds_toArray, List.set_cons_succ, List.set_cons_zero])
        | ((with_reducible apply wps_loada_el S 2 (hj := Ha.out) (q := 0) (vs := [.int .i64 a.ev.key.at_, .int .i64 a.ev.key.src, .int .i64 a.ev.key.sent, .int .i64 a.ev.key.no, .int .i64 a.ev.dst, .int .i64 a.ev.kind, .int .i64 a.ev.data, .bool a.anti]) (m := 8)); (case hx => rfl); (case hT => decide +kernel); (case hi => rfl); (case hn => omega); (case hm => rfl); (case hv => rfl))
        | ((with_reducible apply wps_loada_el S 2 (hj := Ha.out) (q := 0) (vs := [.int .i64 a.ev.key.at_, .int .i64 a.ev.key.src, .int .i64 a.ev.key.sent, .int .i64 a.ev.key.no, .int .i64 a.ev.dst, .int .i64 a.ev.kind, .int .i64 a.ev.data]) (m := 7)); (case hx => rfl); (case hT => decide +kernel); (case hi => rfl); (case hn => omega); (case hm => rfl); (case hv => rfl))
        | ((with_reducible apply wps_loada_el S 2 (hj := Ha.out) (q := 0) (vs := [.int .i64 a.ev.key.at_, .int .i64 a.ev.key.src, .int .i64 a.ev.key.sent, .int .i64 a.ev.key.no]) (m := 4)); (case hx => rfl); (case hT => decide +kernel); (case hi => rfl); (case hn => omega); (case hm => rfl); (case hv => rfl))
        | ((with_reducible apply wps_load_el S 2 (hj := Ha.out) (q := 0) (u := .int .i64 a.ev.key.at_)); (case hx => rfl); (case hi => rfl); (case hn => omega); (case hT => decide +kernel); (case hu => rfl))
        | ((with_reducible apply wps_load_el S 2 (hj := Ha.out) (q := 1) (u := .int .i64 a.ev.key.src)); (case hx => rfl); (case hi => rfl); (case hn => omega); (case hT => decide +kernel); (case hu => rfl))
        | ((with_reducible apply wps_load_el S 2 (hj := Ha.out) (q := 2) (u := .int .i64 a.ev.key.sent)); (case hx => rfl); (case hi => rfl); (case hn => omega); (case hT => decide +kernel); (case hu => rfl))
        | ((with_reducible apply wps_load_el S 2 (hj := Ha.out) (q := 3) (u := .int .i64 a.ev.key.no)); (case hx => rfl); (case hi => rfl); (case hn => omega); (case hT => decide +kernel); (case hu => rfl))
        | ((with_reducible apply wps_load_el S 2 (hj := Ha.out) (q := 4) (u := .int .i64 a.ev.dst)); (case hx => rfl); (case hi => rfl); (case hn => omega); (case hT => decide +kernel); (case hu => rfl))
        | ((with_reducible apply wps_load_el S 2 (hj := Ha.out) (q := 5) (u := .int .i64 a.ev.kind)); (case hx => rfl); (case hi => rfl); (case hn => omega); (case hT => decide +kernel); (case hu => rfl))
        | ((with_reducible apply wps_load_el S 2 (hj := Ha.out) (q := 6) (u := .int .i64 a.ev.data)); (case hx => rfl); (case hi => rfl); (case hn => omega); (case hT => decide +kernel); (case hu => rfl))
        | ((with_reducible apply wps_load_el S 2 (hj := Ha.out) (q := 7) (u := .bool a.anti)); (case hx => rfl); (case hi => rfl); (case hn => omega); (case hT => decide +kernel); (case hu => rfl))
        | ((with_reducible apply wps_build1a (E := 34) S); (case hx => rfl); (case hr => intro w; kernel_rfl); clear S; intro bz wz S)
        | ((with_reducible apply wps_append1 elem_Msg mcells mone (by decide) S 1 (j := 0) (e := a)); (case hx => rfl); (case hy => rfl); (case hi => rfl); (case hj => rfl); (case he => rfl); (case hl => first | omega | (simp; omega)); clear S; intro az nz cz wz hnz S; simp only [List.set_cons_succ, List.set_cons_zero] at S)
        | ((with_reducible refine tot_done ?ht ?_); (case ht => kernel_rfl))
        | ((with_reducible apply wps_text S); (case hm => kernel_rfl); (case hB => decide +kernel); clear S; intro wz S)
        | ((with_reducible apply wps_loada (T := 34) (k := 8) S 0); (case hx => rfl); (case hi => rfl); (case hT => decide +kernel); (case hk => exact Nat.le_of_ble_eq_true rfl))
      go_roundw
      case rel => exact ⟨j + 1, by omega, by go_num, by rw [HT.out]; exact S.pick [1, 2, 3] rfl⟩
      case measure => first | (simp [intOf]; done) | (simp [intOf]; omega)
    · obtain rfl : j = l.length := by omega
      have e1 : (rot l r).take l.length = rot l r := List.take_of_length_le (by rw [rot_len]; exact Nat.le_refl _)
      rw [e1] at S
      replace S := S.freeze true 0 mcells rfl
      simp only [List.set_cons_zero] at S
      obtain ⟨ad0, c0, rfl, _⟩ := (S.sl 0 rfl).elim fun _ h => h.form
      have htl : (rot l r).length ≤ 65536 := by rw [rot_len]; exact hl
      have HB := Lib.hid (bad_rot l r)
      have HPm := Lib.hid (left_perm (rot_perm l r))
      clear e1 hr hrl
      go_wp2_with first
        | go_skip
        | ((with_reducible refine wpList_skip ?hw ?_); (case hw => with_unfolding_all rfl); simp only [Act.put, List.setIfInBounds_toArray, List.set_cons_succ, List.set_cons_zero])
        | ((with_reducible refine tot_done ?ht ?_); (case ht => kernel_rfl))
        | ((with_reducible apply wps_text S); (case hm => kernel_rfl); (case hB => decide +kernel); clear S; intro wz S)
        | ((with_reducible apply wps_loada (T := 34) (k := 8) S 0); (case hx => rfl); (case hi => rfl); (case hT => decide +kernel); (case hk => exact Nat.le_of_ble_eq_true rfl))
      refine Calls.mono (settle_calls _ (rot l r) _ _ (S.get (i := 0) rfl).choose_spec htl) ?_
      intro e wz2 hP
      have main : ∃ (vb : Value) (ys : List Message), e = .returned (.tuple #[vb, .int .i64 k]) ∧ ys.Perm xs ∧ St (fun _ => False) w wz2 [Sl true Message.cells 8 vb ys, Sl true Message.cells 8 va xs, Sl true Message.cells 8 (.slice (some ⟨R, o, none⟩) l.length cp) l] := by
        rcases hP with ⟨hb, rfl, hE⟩ | ⟨hb, ad2, c2, rfl, T⟩
        · rcases Hxs.out with ⟨_, rfl, rfl⟩ | ⟨h2, _⟩
          · exact ⟨_, [], rfl, List.Perm.refl _, by have := (((S.ext (Keep.of_below hE)).nil 34 Message.cells 8).freeze true 0 mcells rfl).pick [0, 2, 3] rfl; simpa [pick, nth] using this⟩
          · exact absurd (HB.out.1 hb) h2
        · rcases Hxs.out with ⟨h2, _⟩ | ⟨_, rfl, rfl⟩
          · exact absurd (HB.out.2 h2) hb
          · exact ⟨_, left (rot l r), rfl, HPm.out, by have := ((S.join T rfl).freeze true 0 mcells rfl).pick [0, 2, 3] rfl; simpa [pick, nth] using this⟩
      clear S hP HB HPm htl
      obtain ⟨vb, ys, rfl, hyp, S⟩ := main
      obtain ⟨adb, cb, rfl, _⟩ := (S.sl 0 rfl).elim fun _ h => h.form
      obtain ⟨ada, ca, rfl, _⟩ := (S.sl 1 rfl).elim fun _ h => h.form
      have hlen := hyp.length_eq
      rw [hlen] at S
      rcases Hxs.out with ⟨_, rfl, rfl⟩ | ⟨hnb, hxl, rfl⟩
      · rw [hlen]
        clear hlen hyp Hxs
        simp only [List.length_nil] at *
        go_wp2_with first
          | go_skip
          | ((with_reducible refine wpList_skip ?hw ?_); (case hw => with_unfolding_all rfl); simp only [Act.put, List.setIfInBounds_toArray, List.set_cons_succ, List.set_cons_zero])
          | (go_at_call 12; refine Calls.mono (awake_calls _) ?_; rintro e wz ⟨rfl, hE⟩; replace S := S.ext (Keep.of_below hE); clear hE)
          | ((with_reducible refine tot_done ?ht ?_); (case ht => kernel_rfl))
          | ((with_reducible apply wps_text S); (case hm => kernel_rfl); (case hB => decide +kernel); clear S; intro wz S)
          | ((with_reducible apply wps_loada (T := 34) (k := 8) S 0); (case hx => rfl); (case hi => rfl); (case hT => decide +kernel); (case hk => exact Nat.le_of_ble_eq_true rfl))
        go_ret
        exact ⟨by simp, S.below⟩
      · rw [hlen]
        have Hlen := Lib.hid hlen
        have Hyp := Lib.hid hyp
        have Hnb := Lib.hid hnb
        have Hxl := Lib.hid hxl
        clear hnb hxl
        clear hlen hyp Hxs
        have HAp : Hid (∀ (i k : Nat) (a b : Message), xs[i]? = some a → xs[k]? = some b → i ≠ k → meets a b = false) := by
          rw [Hxl.out]; exact fun i k a b ha hb hn => left_apart ha hb hn
        have hxlen : xs.length ≤ 40 := by
          have h1 : xs.length ≤ l.length := by rw [Hxl.out]; exact leftTo_len _ _
          omega
        clear hf1 hb1 hb2
        go_wp2_with first
          | go_skip
          | ((with_reducible refine wpList_skip ?hw ?_); (case hw => with_unfolding_all rfl); simp only [Act.put, List.setIfInBounds_toArray, List.set_cons_succ, List.set_cons_zero])
          | ((with_reducible refine tot_done ?ht ?_); (case ht => kernel_rfl))
          | ((with_reducible apply wps_text S); (case hm => kernel_rfl); (case hB => decide +kernel); clear S; intro wz S)
          | ((with_reducible apply wps_loada (T := 34) (k := 8) S 0); (case hx => rfl); (case hi => rfl); (case hT => decide +kernel); (case hk => exact Nat.le_of_ble_eq_true rfl))
        go_loopw [13] (fun i wr => LRel2 (.slice (some ⟨R, o, none⟩) l.length cp) (.slice ada xs.length ca) (.slice adb xs.length cb) l xs ys w i wr) (fun i _ => xs.length - (intOf i).toNat)
        case atStart => exact ⟨0, Nat.zero_le _, rfl, S⟩
        case round =>
          clear S
          obtain ⟨i, hi, rfl, S⟩ := hrel
          by_cases hlt : i < xs.length
          · obtain ⟨a, ha⟩ : ∃ a, xs[i]? = some a := ⟨_, List.getElem?_eq_getElem hlt⟩
            obtain ⟨Ra, oa, rfl⟩ : ∃ R o, ada = some ⟨R, o, none⟩ := (S.sl 1 rfl).elim fun F h => h.head (by omega)
            obtain ⟨Rb, ob, rfl⟩ : ∃ R o, adb = some ⟨R, o, none⟩ := (S.sl 0 rfl).elim fun F h => h.head (by have := Hlen.out; omega)
            have hlt2 : (i : Int) < xs.length := by omega
            have Ha := Lib.hid ha
            clear ha
            go_wp2_with first
              | go_skip
              | ((with_reducible refine wpList_skip ?hw ?_); (case hw => with_unfolding_all rfl); simp only [Act.put, List.setIfInBounds_toArray, List.set_cons_succ, List.set_cons_zero])
              | ((with_reducible refine tot_done ?ht ?_); (case ht => kernel_rfl))
              | ((with_reducible apply wps_text S); (case hm => kernel_rfl); (case hB => decide +kernel); clear S; intro wz S)
              | ((with_reducible apply wps_loada (T := 34) (k := 8) S 0); (case hx => rfl); (case hi => rfl); (case hT => decide +kernel); (case hk => exact Nat.le_of_ble_eq_true rfl))
            go_loopw [14, 15] (fun p k wr => LRel3 (.slice (some ⟨R, o, none⟩) l.length cp) (.slice (some ⟨Ra, oa, none⟩) xs.length ca) (.slice (some ⟨Rb, ob, none⟩) xs.length cb) l xs ys a w p k wr) (fun _ k _ => xs.length - (intOf k).toNat)
            case atStart => exact ⟨0, Nat.zero_le _, rfl, by simp, S⟩
            case round =>
              clear S
              obtain ⟨k, hk, rfl, rfl, S⟩ := hrel
              by_cases hkl : k < xs.length
              · obtain ⟨b, hb⟩ : ∃ b, ys[k]? = some b := ⟨_, List.getElem?_eq_getElem (by have := Hlen.out; omega)⟩
                obtain ⟨c, hc⟩ : ∃ c, xs[k]? = some c := ⟨_, List.getElem?_eq_getElem hkl⟩
                have hkl2 : (k : Int) < xs.length := by omega
                have s1 := anym_step (p := fun b => decide (a = b)) hb
                have hm : k ≠ i → meets a c = false := fun hn => HAp.out i k a c Ha.out hc (Ne.symm hn)
                have hv := message_ceqs a b
                generalize ((ys.take k).any fun b => decide (a = b)) = p at *
                generalize hd : decide (a = b) = d at *
                have Hb := Lib.hid hb
                have Hc := Lib.hid hc
                have S1 := Lib.hid s1
                have Hm := Lib.hid hm
                have Hv := Lib.hid hv
                clear hb hc s1 hm hv
                clear hd
                go_upto_region 21 with fail
                go_cut [14] from 106 to 117 (fun v wx => v = .bool (p || d) ∧ St (fun _ => False) w wx [Sl true Message.cells 8 (.slice (some ⟨Rb, ob, none⟩) xs.length cb) ys, Sl true Message.cells 8 (.slice (some ⟨Ra, oa, none⟩) xs.length ca) xs, Sl true Message.cells 8 (.slice (some ⟨R, o, none⟩) l.length cp) l])
                case first =>
                  cases p
                  all_goals
                    go_wp2_with first
                      | go_skip
                      | ((with_reducible refine wpList_skip ?hw ?_); (case hw => with_unfolding_all rfl); simp only [Act.put, List.setIfInBounds_toArray, List.set_cons_succ, List.set_cons_zero])
                      | ((with_reducible apply wps_loada_el S 1 (hj := Ha.out) (q := 0) (vs := [.int .i64 a.ev.key.at_, .int .i64 a.ev.key.src, .int .i64 a.ev.key.sent, .int .i64 a.ev.key.no, .int .i64 a.ev.dst, .int .i64 a.ev.kind, .int .i64 a.ev.data, .bool a.anti]) (m := 8)); (case hx => rfl); (case hT => decide +kernel); (case hi => rfl); (case hn => omega); (case hm => rfl); (case hv => rfl))
                      | ((with_reducible apply wps_loada_el S 1 (hj := Ha.out) (q := 0) (vs := [.int .i64 a.ev.key.at_, .int .i64 a.ev.key.src, .int .i64 a.ev.key.sent, .int .i64 a.ev.key.no, .int .i64 a.ev.dst, .int .i64 a.ev.kind, .int .i64 a.ev.data]) (m := 7)); (case hx => rfl); (case hT => decide +kernel); (case hi => rfl); (case hn => omega); (case hm => rfl); (case hv => rfl))
                      | ((with_reducible apply wps_loada_el S 1 (hj := Ha.out) (q := 0) (vs := [.int .i64 a.ev.key.at_, .int .i64 a.ev.key.src, .int .i64 a.ev.key.sent, .int .i64 a.ev.key.no]) (m := 4)); (case hx => rfl); (case hT => decide +kernel); (case hi => rfl); (case hn => omega); (case hm => rfl); (case hv => rfl))
                      | ((with_reducible apply wps_load_el S 1 (hj := Ha.out) (q := 0) (u := .int .i64 a.ev.key.at_)); (case hx => rfl); (case hi => rfl); (case hn => omega); (case hT => decide +kernel); (case hu => rfl))
                      | ((with_reducible apply wps_load_el S 1 (hj := Ha.out) (q := 1) (u := .int .i64 a.ev.key.src)); (case hx => rfl); (case hi => rfl); (case hn => omega); (case hT => decide +kernel); (case hu => rfl))
                      | ((with_reducible apply wps_load_el S 1 (hj := Ha.out) (q := 2) (u := .int .i64 a.ev.key.sent)); (case hx => rfl); (case hi => rfl); (case hn => omega); (case hT => decide +kernel); (case hu => rfl))
                      | ((with_reducible apply wps_load_el S 1 (hj := Ha.out) (q := 3) (u := .int .i64 a.ev.key.no)); (case hx => rfl); (case hi => rfl); (case hn => omega); (case hT => decide +kernel); (case hu => rfl))
                      | ((with_reducible apply wps_load_el S 1 (hj := Ha.out) (q := 4) (u := .int .i64 a.ev.dst)); (case hx => rfl); (case hi => rfl); (case hn => omega); (case hT => decide +kernel); (case hu => rfl))
                      | ((with_reducible apply wps_load_el S 1 (hj := Ha.out) (q := 5) (u := .int .i64 a.ev.kind)); (case hx => rfl); (case hi => rfl); (case hn => omega); (case hT => decide +kernel); (case hu => rfl))
                      | ((with_reducible apply wps_load_el S 1 (hj := Ha.out) (q := 6) (u := .int .i64 a.ev.data)); (case hx => rfl); (case hi => rfl); (case hn => omega); (case hT => decide +kernel); (case hu => rfl))
                      | ((with_reducible apply wps_load_el S 1 (hj := Ha.out) (q := 7) (u := .bool a.anti)); (case hx => rfl); (case hi => rfl); (case hn => omega); (case hT => decide +kernel); (case hu => rfl))
                      | ((with_reducible apply wps_loada_el S 0 (hj := Hb.out) (q := 0) (vs := [.int .i64 b.ev.key.at_, .int .i64 b.ev.key.src, .int .i64 b.ev.key.sent, .int .i64 b.ev.key.no, .int .i64 b.ev.dst, .int .i64 b.ev.kind, .int .i64 b.ev.data, .bool b.anti]) (m := 8)); (case hx => rfl); (case hT => decide +kernel); (case hi => rfl); (case hn => omega); (case hm => rfl); (case hv => rfl))
                      | ((with_reducible apply wps_loada_el S 0 (hj := Hb.out) (q := 0) (vs := [.int .i64 b.ev.key.at_, .int .i64 b.ev.key.src, .int .i64 b.ev.key.sent, .int .i64 b.ev.key.no, .int .i64 b.ev.dst, .int .i64 b.ev.kind, .int .i64 b.ev.data]) (m := 7)); (case hx => rfl); (case hT => decide +kernel); (case hi => rfl); (case hn => omega); (case hm => rfl); (case hv => rfl))
                      | ((with_reducible apply wps_loada_el S 0 (hj := Hb.out) (q := 0) (vs := [.int .i64 b.ev.key.at_, .int .i64 b.ev.key.src, .int .i64 b.ev.key.sent, .int .i64 b.ev.key.no]) (m := 4)); (case hx => rfl); (case hT => decide +kernel); (case hi => rfl); (case hn => omega); (case hm => rfl); (case hv => rfl))
                      | ((with_reducible apply wps_load_el S 0 (hj := Hb.out) (q := 0) (u := .int .i64 b.ev.key.at_)); (case hx => rfl); (case hi => rfl); (case hn => omega); (case hT => decide +kernel); (case hu => rfl))
                      | ((with_reducible apply wps_load_el S 0 (hj := Hb.out) (q := 1) (u := .int .i64 b.ev.key.src)); (case hx => rfl); (case hi => rfl); (case hn => omega); (case hT => decide +kernel); (case hu => rfl))
                      | ((with_reducible apply wps_load_el S 0 (hj := Hb.out) (q := 2) (u := .int .i64 b.ev.key.sent)); (case hx => rfl); (case hi => rfl); (case hn => omega); (case hT => decide +kernel); (case hu => rfl))
                      | ((with_reducible apply wps_load_el S 0 (hj := Hb.out) (q := 3) (u := .int .i64 b.ev.key.no)); (case hx => rfl); (case hi => rfl); (case hn => omega); (case hT => decide +kernel); (case hu => rfl))
                      | ((with_reducible apply wps_load_el S 0 (hj := Hb.out) (q := 4) (u := .int .i64 b.ev.dst)); (case hx => rfl); (case hi => rfl); (case hn => omega); (case hT => decide +kernel); (case hu => rfl))
                      | ((with_reducible apply wps_load_el S 0 (hj := Hb.out) (q := 5) (u := .int .i64 b.ev.kind)); (case hx => rfl); (case hi => rfl); (case hn => omega); (case hT => decide +kernel); (case hu => rfl))
                      | ((with_reducible apply wps_load_el S 0 (hj := Hb.out) (q := 6) (u := .int .i64 b.ev.data)); (case hx => rfl); (case hi => rfl); (case hn => omega); (case hT => decide +kernel); (case hu => rfl))
                      | ((with_reducible apply wps_load_el S 0 (hj := Hb.out) (q := 7) (u := .bool b.anti)); (case hx => rfl); (case hi => rfl); (case hn => omega); (case hT => decide +kernel); (case hu => rfl))
                      | ((with_reducible apply wpList_eql_agg (t := 34) (ks := [.int .i64,.int .i64,.int .i64,.int .i64,.int .i64,.int .i64,.int .i64,.bool]) (b := _)); (case hx => rfl); (case hy => rfl); (case hl => kernel_rfl); (case ha => kernel_rfl); (case hg => kernel_rfl); (case hfx => rfl); (case hfy => rfl); (case hb => exact Hv.out))
                      | ((with_reducible refine tot_done ?ht ?_); (case ht => kernel_rfl))
                      | ((with_reducible apply wps_text S); (case hm => kernel_rfl); (case hB => decide +kernel); clear S; intro wz S)
                      | ((with_reducible apply wps_loada (T := 34) (k := 8) S 0); (case hx => rfl); (case hi => rfl); (case hT => decide +kernel); (case hk => exact Nat.le_of_ble_eq_true rfl))
                    go_meet
                    case rel => exact ⟨by simp, S⟩
                case rest =>
                clear S
                obtain ⟨rfl, S⟩ := hcut
                rw [← S1.out]
                by_cases hki : i = k
                · have hki2 : ((i : Int) != k) = false := by simp [hki]
                  clear hki
                  go_wp2_with first
                    | go_skip
                    | ((with_reducible refine wpList_skip ?hw ?_); (case hw => with_unfolding_all rfl); simp only [Act.put, List.setIfInBounds_toArray, List.set_cons_succ, List.set_cons_zero])
                    | ((with_reducible refine tot_done ?ht ?_); (case ht => kernel_rfl))
                    | ((with_reducible apply wps_text S); (case hm => kernel_rfl); (case hB => decide +kernel); clear S; intro wz S)
                    | ((with_reducible apply wps_loada (T := 34) (k := 8) S 0); (case hx => rfl); (case hi => rfl); (case hT => decide +kernel); (case hk => exact Nat.le_of_ble_eq_true rfl))
                  go_roundw
                  case rel => exact ⟨k + 1, by omega, by go_num, rfl, S⟩
                  case measure => first | (simp [intOf]; done) | (simp [intOf]; omega)
                · have hki2 : ((i : Int) != k) = true := by simp; omega
                  have HC : Hid (∀ w, Calls Try.prog 14 #[.agg #[.int .i64 a.ev.key.at_, .int .i64 a.ev.key.src, .int .i64 a.ev.key.sent, .int .i64 a.ev.key.no, .int .i64 a.ev.dst, .int .i64 a.ev.kind, .int .i64 a.ev.data, .bool a.anti], .agg #[.int .i64 c.ev.key.at_, .int .i64 c.ev.key.src, .int .i64 c.ev.key.sent, .int .i64 c.ev.key.no, .int .i64 c.ev.dst, .int .i64 c.ev.kind, .int .i64 c.ev.data, .bool c.anti]] w fun r w' => r = .returned (.bool false) ∧ Below w.heap.size w w') := fun w => by
                    have := meets_calls a c w; rwa [Hm.out (Ne.symm hki)] at this
                  clear hki
                  go_wp2_with first
                    | go_skip
                    | ((with_reducible refine wpList_skip ?hw ?_); (case hw => with_unfolding_all rfl); simp only [Act.put, List.setIfInBounds_toArray, List.set_cons_succ, List.set_cons_zero])
                    | ((with_reducible apply wps_loada_el S 1 (hj := Ha.out) (q := 0) (vs := [.int .i64 a.ev.key.at_, .int .i64 a.ev.key.src, .int .i64 a.ev.key.sent, .int .i64 a.ev.key.no, .int .i64 a.ev.dst, .int .i64 a.ev.kind, .int .i64 a.ev.data, .bool a.anti]) (m := 8)); (case hx => rfl); (case hT => decide +kernel); (case hi => rfl); (case hn => omega); (case hm => rfl); (case hv => rfl))
                    | ((with_reducible apply wps_loada_el S 1 (hj := Ha.out) (q := 0) (vs := [.int .i64 a.ev.key.at_, .int .i64 a.ev.key.src, .int .i64 a.ev.key.sent, .int .i64 a.ev.key.no, .int .i64 a.ev.dst, .int .i64 a.ev.kind, .int .i64 a.ev.data]) (m := 7)); (case hx => rfl); (case hT => decide +kernel); (case hi => rfl); (case hn => omega); (case hm => rfl); (case hv => rfl))
                    | ((with_reducible apply wps_loada_el S 1 (hj := Ha.out) (q := 0) (vs := [.int .i64 a.ev.key.at_, .int .i64 a.ev.key.src, .int .i64 a.ev.key.sent, .int .i64 a.ev.key.no]) (m := 4)); (case hx => rfl); (case hT => decide +kernel); (case hi => rfl); (case hn => omega); (case hm => rfl); (case hv => rfl))
                    | ((with_reducible apply wps_load_el S 1 (hj := Ha.out) (q := 0) (u := .int .i64 a.ev.key.at_)); (case hx => rfl); (case hi => rfl); (case hn => omega); (case hT => decide +kernel); (case hu => rfl))
                    | ((with_reducible apply wps_load_el S 1 (hj := Ha.out) (q := 1) (u := .int .i64 a.ev.key.src)); (case hx => rfl); (case hi => rfl); (case hn => omega); (case hT => decide +kernel); (case hu => rfl))
                    | ((with_reducible apply wps_load_el S 1 (hj := Ha.out) (q := 2) (u := .int .i64 a.ev.key.sent)); (case hx => rfl); (case hi => rfl); (case hn => omega); (case hT => decide +kernel); (case hu => rfl))
                    | ((with_reducible apply wps_load_el S 1 (hj := Ha.out) (q := 3) (u := .int .i64 a.ev.key.no)); (case hx => rfl); (case hi => rfl); (case hn => omega); (case hT => decide +kernel); (case hu => rfl))
                    | ((with_reducible apply wps_load_el S 1 (hj := Ha.out) (q := 4) (u := .int .i64 a.ev.dst)); (case hx => rfl); (case hi => rfl); (case hn => omega); (case hT => decide +kernel); (case hu => rfl))
                    | ((with_reducible apply wps_load_el S 1 (hj := Ha.out) (q := 5) (u := .int .i64 a.ev.kind)); (case hx => rfl); (case hi => rfl); (case hn => omega); (case hT => decide +kernel); (case hu => rfl))
                    | ((with_reducible apply wps_load_el S 1 (hj := Ha.out) (q := 6) (u := .int .i64 a.ev.data)); (case hx => rfl); (case hi => rfl); (case hn => omega); (case hT => decide +kernel); (case hu => rfl))
                    | ((with_reducible apply wps_load_el S 1 (hj := Ha.out) (q := 7) (u := .bool a.anti)); (case hx => rfl); (case hi => rfl); (case hn => omega); (case hT => decide +kernel); (case hu => rfl))
                    | ((with_reducible apply wps_loada_el S 1 (hj := Hc.out) (q := 0) (vs := [.int .i64 c.ev.key.at_, .int .i64 c.ev.key.src, .int .i64 c.ev.key.sent, .int .i64 c.ev.key.no, .int .i64 c.ev.dst, .int .i64 c.ev.kind, .int .i64 c.ev.data, .bool c.anti]) (m := 8)); (case hx => rfl); (case hT => decide +kernel); (case hi => rfl); (case hn => omega); (case hm => rfl); (case hv => rfl))
                    | ((with_reducible apply wps_loada_el S 1 (hj := Hc.out) (q := 0) (vs := [.int .i64 c.ev.key.at_, .int .i64 c.ev.key.src, .int .i64 c.ev.key.sent, .int .i64 c.ev.key.no, .int .i64 c.ev.dst, .int .i64 c.ev.kind, .int .i64 c.ev.data]) (m := 7)); (case hx => rfl); (case hT => decide +kernel); (case hi => rfl); (case hn => omega); (case hm => rfl); (case hv => rfl))
                    | ((with_reducible apply wps_loada_el S 1 (hj := Hc.out) (q := 0) (vs := [.int .i64 c.ev.key.at_, .int .i64 c.ev.key.src, .int .i64 c.ev.key.sent, .int .i64 c.ev.key.no]) (m := 4)); (case hx => rfl); (case hT => decide +kernel); (case hi => rfl); (case hn => omega); (case hm => rfl); (case hv => rfl))
                    | ((with_reducible apply wps_load_el S 1 (hj := Hc.out) (q := 0) (u := .int .i64 c.ev.key.at_)); (case hx => rfl); (case hi => rfl); (case hn => omega); (case hT => decide +kernel); (case hu => rfl))
                    | ((with_reducible apply wps_load_el S 1 (hj := Hc.out) (q := 1) (u := .int .i64 c.ev.key.src)); (case hx => rfl); (case hi => rfl); (case hn => omega); (case hT => decide +kernel); (case hu => rfl))
                    | ((with_reducible apply wps_load_el S 1 (hj := Hc.out) (q := 2) (u := .int .i64 c.ev.key.sent)); (case hx => rfl); (case hi => rfl); (case hn => omega); (case hT => decide +kernel); (case hu => rfl))
                    | ((with_reducible apply wps_load_el S 1 (hj := Hc.out) (q := 3) (u := .int .i64 c.ev.key.no)); (case hx => rfl); (case hi => rfl); (case hn => omega); (case hT => decide +kernel); (case hu => rfl))
                    | ((with_reducible apply wps_load_el S 1 (hj := Hc.out) (q := 4) (u := .int .i64 c.ev.dst)); (case hx => rfl); (case hi => rfl); (case hn => omega); (case hT => decide +kernel); (case hu => rfl))
                    | ((with_reducible apply wps_load_el S 1 (hj := Hc.out) (q := 5) (u := .int .i64 c.ev.kind)); (case hx => rfl); (case hi => rfl); (case hn => omega); (case hT => decide +kernel); (case hu => rfl))
                    | ((with_reducible apply wps_load_el S 1 (hj := Hc.out) (q := 6) (u := .int .i64 c.ev.data)); (case hx => rfl); (case hi => rfl); (case hn => omega); (case hT => decide +kernel); (case hu => rfl))
                    | ((with_reducible apply wps_load_el S 1 (hj := Hc.out) (q := 7) (u := .bool c.anti)); (case hx => rfl); (case hi => rfl); (case hn => omega); (case hT => decide +kernel); (case hu => rfl))
                    | (go_at_call 14; refine Calls.mono (HC.out _) ?_; rintro e wz ⟨rfl, hE⟩; replace S := S.ext (Keep.of_below hE); clear hE)
                    | ((with_reducible refine tot_done ?ht ?_); (case ht => kernel_rfl))
                    | ((with_reducible apply wps_text S); (case hm => kernel_rfl); (case hB => decide +kernel); clear S; intro wz S)
                    | ((with_reducible apply wps_loada (T := 34) (k := 8) S 0); (case hx => rfl); (case hi => rfl); (case hT => decide +kernel); (case hk => exact Nat.le_of_ble_eq_true rfl))
                  go_roundw
                  case rel => exact ⟨k + 1, by omega, by go_num, rfl, S⟩
                  case measure => first | (simp [intOf]; done) | (simp [intOf]; omega)
              · obtain rfl : k = xs.length := by omega
                have e1 : ((ys.take xs.length).any fun b => decide (a = b)) = true := by
                  rw [List.take_of_length_le (by have := Hlen.out; omega), List.any_eq_true]
                  exact ⟨a, Hyp.out.mem_iff.2 (List.mem_of_getElem? Ha.out), by simp⟩
                rw [e1]
                clear e1
                go_wp2_with first
                  | go_skip
                  | ((with_reducible refine wpList_skip ?hw ?_); (case hw => with_unfolding_all rfl); simp only [Act.put, List.setIfInBounds_toArray, List.set_cons_succ, List.set_cons_zero])
                  | ((with_reducible refine tot_done ?ht ?_); (case ht => kernel_rfl))
                  | ((with_reducible apply wps_text S); (case hm => kernel_rfl); (case hB => decide +kernel); clear S; intro wz S)
                  | ((with_reducible apply wps_loada (T := 34) (k := 8) S 0); (case hx => rfl); (case hi => rfl); (case hT => decide +kernel); (case hk => exact Nat.le_of_ble_eq_true rfl))
                go_roundw
                case rel => exact ⟨i + 1, by omega, by go_num, S⟩
                case measure => first | (simp [intOf]; done) | (simp [intOf]; omega)
          · obtain rfl : i = xs.length := by omega
            replace S := S.pick [1, 2] rfl
            simp only [pick, nth] at S
            have HG := Lib.hid (left_parts (x := l.take n) (y := l.drop n) (by rw [List.take_append_drop]; exact good_iff.1 Hnb.out))
            have hn1 : n ≤ l.length := by omega
            clear Hyp Hlen HAp
            go_wp2_with first
              | go_skip
              | ((with_reducible refine wpList_skip ?hw ?_); (case hw => with_unfolding_all rfl); simp only [Act.put, List.setIfInBounds_toArray, List.set_cons_succ, List.set_cons_zero])
              | ((with_reducible apply wps_slice (E := 34) S 1 (l := 0) (u := n)); (case hx => rfl); (case hi => rfl); (case hT => exact Try.underlying27); (case hE => intro w; kernel_rfl); (case hlo => first | exact .inr rfl | exact .inl ⟨rfl, rfl⟩); (case hhi => first | exact .inr rfl | exact .inl ⟨rfl, rfl⟩); (case h1 => first | omega | (simp; omega)); (case h2 => first | omega | (simp; omega)); clear S; intro az nz cz hnz S)
              | ((with_reducible refine tot_done ?ht ?_); (case ht => kernel_rfl))
              | ((with_reducible apply wps_text S); (case hm => kernel_rfl); (case hB => decide +kernel); clear S; intro wz S)
              | ((with_reducible apply wps_loada (T := 34) (k := 8) S 0); (case hx => rfl); (case hi => rfl); (case hT => decide +kernel); (case hk => exact Nat.le_of_ble_eq_true rfl))
            simp only [List.drop_zero] at S
            have hln : (l.take n).length ≤ 65536 := by simp; omega
            refine Calls.mono (settle_calls _ (l.take n) _ _ (S.get (i := 0) rfl).choose_spec hln) ?_
            rintro e wz3 (⟨hb, _⟩ | ⟨_, ad3, c3, rfl, T⟩)
            · exact absurd hb (good_iff.2 HG.out.1)
            replace S := S.join T rfl
            simp only [List.cons_append, List.nil_append] at S
            clear T
            have hl3 : (left (l.take n)).length ≤ 40 := by
              have h1 : (left (l.take n)).length ≤ (l.take n).length := leftTo_len _ _
              simp at h1; omega
            go_wp2_with first
              | go_skip
              | ((with_reducible refine wpList_skip ?hw ?_); (case hw => with_unfolding_all rfl); simp only [Act.put, List.setIfInBounds_toArray, List.set_cons_succ, List.set_cons_zero])
              | ((with_reducible apply wps_slice (E := 34) S 3 (l := n) (u := l.length)); (case hx => rfl); (case hi => rfl); (case hT => exact Try.underlying27); (case hE => intro w; kernel_rfl); (case hlo => first | exact .inr rfl | exact .inl ⟨rfl, rfl⟩); (case hhi => first | exact .inr rfl | exact .inl ⟨rfl, rfl⟩); (case h1 => first | omega | (simp; omega)); (case h2 => first | omega | (simp; omega)); clear S; intro az nz cz hnz S)
              | ((with_reducible apply wps_appends elem_Msg mcells mone (by decide) S 1 (j := 0)); (case hx => rfl); (case hy => rfl); (case hi => rfl); (case hj => rfl); (case hl => first | omega | (simp; omega)); clear S; intro az nz cz wz hnz S; simp only [List.set_cons_succ, List.set_cons_zero] at S)
              | ((with_reducible refine tot_done ?ht ?_); (case ht => kernel_rfl))
              | ((with_reducible apply wps_text S); (case hm => kernel_rfl); (case hB => decide +kernel); clear S; intro wz S)
              | ((with_reducible apply wps_loada (T := 34) (k := 8) S 0); (case hx => rfl); (case hi => rfl); (case hT => decide +kernel); (case hk => exact Nat.le_of_ble_eq_true rfl))
            have e1 : (l.take l.length).drop n = l.drop n := by rw [List.take_length]
            rw [e1] at S
            clear e1
            replace S := S.freeze true 1 mcells rfl
            simp only [List.set_cons_succ, List.set_cons_zero] at S
            have hl4 : (left (l.take n) ++ l.drop n).length ≤ 65536 := by simp; omega
            refine Calls.mono (settle_calls _ (left (l.take n) ++ l.drop n) _ _ (S.get (i := 1) rfl).choose_spec hl4) ?_
            rintro e wz4 (⟨hb, _⟩ | ⟨_, ad4, c4, rfl, T⟩)
            · exact absurd hb (good_iff.2 HG.out.2.1)
            have e2 : left (left (l.take n) ++ l.drop n) = xs := by rw [HG.out.2.2, List.take_append_drop, Hxl.out]
            rw [e2] at T
            rw [e2]
            replace S := S.join T rfl
            simp only [List.cons_append, List.nil_append] at S
            clear T e2 HG
            replace S := (S.freeze true 0 mcells rfl).pick [0, 4] rfl
            simp only [List.set_cons_zero, pick, nth] at S
            have HT : Hid (∀ wq F1 F2 v1 v2, (Sl true Message.cells 8 v1 xs).at_ wq F1 → (Sl true Message.cells 8 v2 xs).at_ wq F2 → Calls Try.prog 15 #[v1, v2] wq fun r w' => r = .returned (.bool true) ∧ Below wq.heap.size wq w') := fun wq F1 F2 v1 v2 h1 h2 => by
              have := msgseq_calls v1 v2 xs xs wq F1 F2 h1 h2 (by omega) (by omega)
              rwa [decide_eq_true rfl] at this
            go_wp2_with first
              | go_skip
              | ((with_reducible refine wpList_skip ?hw ?_); (case hw => with_unfolding_all rfl); simp only [Act.put, List.setIfInBounds_toArray, List.set_cons_succ, List.set_cons_zero])
              | (go_at_call 15; refine Calls.mono (HT.out _ _ _ _ _ (S.get (i := 1) rfl).choose_spec (S.get (i := 0) rfl).choose_spec) ?_; rintro e wz ⟨rfl, hE⟩; replace S := S.ext (Keep.of_below hE); clear hE)
              | (go_at_call 12; refine Calls.mono (awake_calls _) ?_; rintro e wz ⟨rfl, hE⟩; replace S := S.ext (Keep.of_below hE); clear hE)
              | ((with_reducible refine tot_done ?ht ?_); (case ht => kernel_rfl))
              | ((with_reducible apply wps_text S); (case hm => kernel_rfl); (case hB => decide +kernel); clear S; intro wz S)
              | ((with_reducible apply wps_loada (T := 34) (k := 8) S 0); (case hx => rfl); (case hi => rfl); (case hT => decide +kernel); (case hk => exact Nat.le_of_ble_eq_true rfl))
            go_ret
            exact ⟨by simp, S.below⟩
end Go.Proofs.Ytejdfgonkfgnfaa

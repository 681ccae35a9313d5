import Derived.Test.YtejdfgonkfgnfaaK8
import Derived.Test.YtejdfgonkfgnfaaK6
/- The walk of the reference's Settle. -/
namespace Go.Proofs.Ytejdfgonkfgnfaa
open Go Go.RowKit Reg Mem

/-- No other one of the first k has the ID of the one at i. -/
def aloneTo (l : List Message) (i k : Nat) : Bool := (List.range k).all fun k => k == i || (match l[i]?, l[k]? with | some a, some b => !sameId a.ev b.ev | _, _ => true)
theorem alone_at (l : List Message) (i : Nat) : aloneTo l i l.length = aloneB l i := rfl
theorem alone_me (l : List Message) (i : Nat) : aloneTo l i (i + 1) = aloneTo l i i := by simp [aloneTo, List.range_succ]
theorem alone_step {l : List Message} {i k : Nat} {a b : Message} (hi : l[i]? = some a) (hk : l[k]? = some b) (hn : k ≠ i) : aloneTo l i (k + 1) = (aloneTo l i k && !sameId b.ev a.ev) := by
  have hs : sameId b.ev a.ev = sameId a.ev b.ev := by
    cases h : sameId a.ev b.ev with
    | true => exact sameId_symm h
    | false =>
      cases h2 : sameId b.ev a.ev with
      | false => rfl
      | true => rw [sameId_symm h2] at h; cases h
  simp only [aloneTo, List.range_succ, List.all_append, List.all_cons, List.all_nil, hi, hk, hs, beq_eq_false_iff_ne.2 hn, Bool.false_or, Bool.and_true]
/-- Of the first k, those of the ID of the one at i undo it. -/
def GoodAt (l : List Message) (i k : Nat) : Prop := ∀ (y : Nat) (a b : Message), y < k → y ≠ i → l[i]? = some a → l[y]? = some b → sameId b.ev a.ev = true → meets b a = true
def GoodTo (l : List Message) (i : Nat) : Prop := ∀ x, x < i → GoodAt l x l.length
theorem good_step {l : List Message} {i k : Nat} (h : GoodAt l i k) (hk : ∀ a b : Message, k ≠ i → l[i]? = some a → l[k]? = some b → sameId b.ev a.ev = true → meets b a = true) : GoodAt l i (k + 1) := fun y a b hy hn ha hb hs => by
  by_cases e : y = k
  · subst e; exact hk a b hn ha hb hs
  · exact h y a b (by omega) hn ha hb hs
theorem good_not {l : List Message} (h : GoodTo l l.length) : ¬ Bad l := fun ⟨x, y, a, b, hn, ha, hb, hs, hm⟩ => by
  have hx := (List.getElem?_eq_some_iff.1 ha).1
  have hy := (List.getElem?_eq_some_iff.1 hb).1
  have := h x hx y a b hy (Ne.symm hn) ha hb (sameId_symm hs)
  rw [meets_symm this] at hm; cases hm
def RSetRel1 (ad : Option Addr) (cp : Nat) (l : List Message) (w : World) (out i : Value) (wr : World) : Prop :=
  ∃ (k : Nat), k ≤ l.length ∧ i = .int .i64 k ∧ GoodTo l k ∧ St (fun _ => False) w wr [Own 34 Message.cells 8 out (leftTo l k), Sl true Message.cells 8 (.slice ad l.length cp) l]
def RSetRel2 (ad : Option Addr) (cp : Nat) (out : Value) (l : List Message) (i : Nat) (w : World) (al kv : Value) (wr : World) : Prop :=
  ∃ (k : Nat), k ≤ l.length ∧ kv = .int .i64 k ∧ al = .bool (aloneTo l i k) ∧ GoodAt l i k ∧ St (fun _ => False) w wr [Own 34 Message.cells 8 out (leftTo l i), Sl true Message.cells 8 (.slice ad l.length cp) l]
theorem meets_val {a b : Message} (h : meets a b = true) : (a.anti == b.anti) = false ∧ decide (a.ev = b.ev) = true := by
  simp only [meets, Bool.and_eq_true, bne_iff_ne] at h
  exact ⟨beq_eq_false_iff_ne.2 h.1, h.2⟩
theorem event_nceqs (a b : Event) : (!ceqs a.cells b.cells) = !decide (a = b) := by rw [event_ceqs]
set_option maxRecDepth 100000 in
set_option maxHeartbeats 8000000 in
theorem rsettle_calls (v : Value) (l : List Message) (w : World) (F : Nat → Prop) (h : (Sl true Message.cells 8 v l).at_ w F) (hn : l.length ≤ 65536) : Calls Try.prog 16 #[v] w (SetPost l w) := by
  have S : St (fun _ => False) w w [Sl true Message.cells 8 v l] := (St.init _ w).share rfl rfl h
  obtain ⟨ad, cp, rfl, _⟩ := (S.sl 0 rfl).elim fun _ h => h.form
  clear h
  replace S := S.nil 34 Message.cells 8
  go_enter Try.func16, Try.ntmps16
  go_wp2_with first
    | go_skip
    | ((with_reducible refine wpList_skip ?hw ?_); (case hw => with_unfolding_all rfl); simp only [Act.put, List.setIfInBounds_toArray, List.set_cons_succ, List.set_cons_zero])
    | ((with_reducible refine tot_done ?ht ?_); (case ht => kernel_rfl))
    | ((with_reducible apply wps_text S); (case hm => kernel_rfl); (case hB => decide +kernel); clear S; intro wz S)
    | ((with_reducible apply wps_load S 0); (case hx => rfl); (case hi => rfl); (case hT => decide +kernel); (case hu => rfl))
    | ((with_reducible apply wps_loada (T := 32) (k := 7) S 0); (case hx => rfl); (case hi => rfl); (case hT => decide +kernel); (case hk => exact Nat.le_of_ble_eq_true rfl))
    | ((with_reducible apply wps_loada (T := 34) (k := 8) S 0); (case hx => rfl); (case hi => rfl); (case hT => decide +kernel); (case hk => exact Nat.le_of_ble_eq_true rfl))
    | ((with_reducible apply wps_load S 1); (case hx => rfl); (case hi => rfl); (case hT => decide +kernel); (case hu => rfl))
    | ((with_reducible apply wps_loada (T := 32) (k := 7) S 1); (case hx => rfl); (case hi => rfl); (case hT => decide +kernel); (case hk => exact Nat.le_of_ble_eq_true rfl))
    | ((with_reducible apply wps_loada (T := 34) (k := 8) S 1); (case hx => rfl); (case hi => rfl); (case hT => decide +kernel); (case hk => exact Nat.le_of_ble_eq_true rfl))
    | ((with_reducible apply wps_load S 2); (case hx => rfl); (case hi => rfl); (case hT => decide +kernel); (case hu => rfl))
    | ((with_reducible apply wps_loada (T := 32) (k := 7) S 2); (case hx => rfl); (case hi => rfl); (case hT => decide +kernel); (case hk => exact Nat.le_of_ble_eq_true rfl))
    | ((with_reducible apply wps_loada (T := 34) (k := 8) S 2); (case hx => rfl); (case hi => rfl); (case hT => decide +kernel); (case hk => exact Nat.le_of_ble_eq_true rfl))
    | ((with_reducible apply wps_load S 3); (case hx => rfl); (case hi => rfl); (case hT => decide +kernel); (case hu => rfl))
    | ((with_reducible apply wps_loada (T := 32) (k := 7) S 3); (case hx => rfl); (case hi => rfl); (case hT => decide +kernel); (case hk => exact Nat.le_of_ble_eq_true rfl))
    | ((with_reducible apply wps_loada (T := 34) (k := 8) S 3); (case hx => rfl); (case hi => rfl); (case hT => decide +kernel); (case hk => exact Nat.le_of_ble_eq_true rfl))
  go_loopw [4, 5] (fun out i wr => RSetRel1 ad cp l w out i wr) (fun _ i _ => l.length - (intOf i).toNat)
  case atStart => exact ⟨0, Nat.zero_le _, rfl, fun x h => by omega, S⟩
  case round =>
    clear S
    obtain ⟨i, hi, rfl, hG, S⟩ := hrel
    have HG := Lib.hid hG
    clear hG
    obtain ⟨F0, hF0⟩ := S.get (i := 0) rfl
    obtain ⟨ad0, c0, rfl⟩ := hF0.1.form
    clear hF0
    have hll := leftTo_len l i
    by_cases hlt : i < l.length
    · obtain ⟨R, o, rfl⟩ : ∃ R o, ad = some ⟨R, o, none⟩ := (S.sl 1 rfl).elim fun F h => h.head (by omega)
      obtain ⟨a, ha⟩ : ∃ a, l[i]? = some a := ⟨_, List.getElem?_eq_getElem hlt⟩
      have hlt2 : (i : Int) < l.length := by omega
      have Ha := Lib.hid ha
      clear ha
      go_wp2_with first
        | go_skip
        | ((with_reducible refine wpList_skip ?hw ?_); (case hw => with_unfolding_all rfl); simp only [Act.put, List.setIfInBounds_toArray, List.set_cons_succ, List.set_cons_zero])
        | ((with_reducible refine tot_done ?ht ?_); (case ht => kernel_rfl))
        | ((with_reducible apply wps_text S); (case hm => kernel_rfl); (case hB => decide +kernel); clear S; intro wz S)
        | ((with_reducible apply wps_load S 0); (case hx => rfl); (case hi => rfl); (case hT => decide +kernel); (case hu => rfl))
        | ((with_reducible apply wps_loada (T := 32) (k := 7) S 0); (case hx => rfl); (case hi => rfl); (case hT => decide +kernel); (case hk => exact Nat.le_of_ble_eq_true rfl))
        | ((with_reducible apply wps_loada (T := 34) (k := 8) S 0); (case hx => rfl); (case hi => rfl); (case hT => decide +kernel); (case hk => exact Nat.le_of_ble_eq_true rfl))
        | ((with_reducible apply wps_load S 1); (case hx => rfl); (case hi => rfl); (case hT => decide +kernel); (case hu => rfl))
        | ((with_reducible apply wps_loada (T := 32) (k := 7) S 1); (case hx => rfl); (case hi => rfl); (case hT => decide +kernel); (case hk => exact Nat.le_of_ble_eq_true rfl))
        | ((with_reducible apply wps_loada (T := 34) (k := 8) S 1); (case hx => rfl); (case hi => rfl); (case hT => decide +kernel); (case hk => exact Nat.le_of_ble_eq_true rfl))
      go_loopw [6, 7] (fun al kv wr => RSetRel2 (some ⟨R, o, none⟩) cp (.slice ad0 (leftTo l i).length c0) l i w al kv wr) (fun _ kv _ => l.length - (intOf kv).toNat)
      case atStart => exact ⟨0, Nat.zero_le _, rfl, rfl, fun y a b h => by omega, S⟩
      case round =>
        clear S
        obtain ⟨k, hk, rfl, rfl, hA, S⟩ := hrel
        by_cases hkl : k < l.length
        · obtain ⟨b, hb⟩ : ∃ b, l[k]? = some b := ⟨_, List.getElem?_eq_getElem hkl⟩
          have hkl2 : (k : Int) < l.length := by omega
          by_cases hki : k = i
          · have HA := Lib.hid (good_step hA (fun a b hn => absurd hki hn))
            have HB : Hid (aloneTo l i k = aloneTo l i (k + 1)) := by rw [hki]; exact (alone_me l i).symm
            have hki2 : ((k : Int) == i) = true := by simp [hki]
            rw [HB.out]
            clear hki hA
            have Hb := Lib.hid hb
            clear hb
            go_wp2_with first
              | go_skip
              | ((with_reducible refine wpList_skip ?hw ?_); (case hw => with_unfolding_all rfl); simp only [Act.put, List.setIfInBounds_toArray, List.set_cons_succ, List.set_cons_zero])
              | ((with_reducible refine tot_done ?ht ?_); (case ht => kernel_rfl))
              | ((with_reducible apply wps_text S); (case hm => kernel_rfl); (case hB => decide +kernel); clear S; intro wz S)
              | ((with_reducible apply wps_load S 0); (case hx => rfl); (case hi => rfl); (case hT => decide +kernel); (case hu => rfl))
              | ((with_reducible apply wps_loada (T := 32) (k := 7) S 0); (case hx => rfl); (case hi => rfl); (case hT => decide +kernel); (case hk => exact Nat.le_of_ble_eq_true rfl))
              | ((with_reducible apply wps_loada (T := 34) (k := 8) S 0); (case hx => rfl); (case hi => rfl); (case hT => decide +kernel); (case hk => exact Nat.le_of_ble_eq_true rfl))
              | ((with_reducible apply wps_load S 1); (case hx => rfl); (case hi => rfl); (case hT => decide +kernel); (case hu => rfl))
              | ((with_reducible apply wps_loada (T := 32) (k := 7) S 1); (case hx => rfl); (case hi => rfl); (case hT => decide +kernel); (case hk => exact Nat.le_of_ble_eq_true rfl))
              | ((with_reducible apply wps_loada (T := 34) (k := 8) S 1); (case hx => rfl); (case hi => rfl); (case hT => decide +kernel); (case hk => exact Nat.le_of_ble_eq_true rfl))
            go_roundw
            case rel => exact ⟨k + 1, by omega, by go_num, rfl, HA.out, S⟩
            case measure => first | (simp [intOf]; done) | (simp [intOf]; omega)
          · have hki2 : ((k : Int) == i) = false := by simp; omega
            have hst := alone_step Ha.out hb hki
            cases hsi : sameId b.ev a.ev with
            | false =>
              have HA := Lib.hid (good_step hA (fun a' b' _ ha' hb' hs => by rw [Ha.out] at ha'; cases ha'; rw [hb] at hb'; cases hb'; rw [hsi] at hs; cases hs))
              have HB : Hid (aloneTo l i k = aloneTo l i (k + 1)) := by rw [hst, hsi]; simp [Hid]
              have HC : Hid (∀ w, Calls Try.prog 28 #[.agg #[.int .i64 b.ev.key.at_, .int .i64 b.ev.key.src, .int .i64 b.ev.key.sent, .int .i64 b.ev.key.no, .int .i64 b.ev.dst, .int .i64 b.ev.kind, .int .i64 b.ev.data], .agg #[.int .i64 a.ev.key.at_, .int .i64 a.ev.key.src, .int .i64 a.ev.key.sent, .int .i64 a.ev.key.no, .int .i64 a.ev.dst, .int .i64 a.ev.kind, .int .i64 a.ev.data]] w fun r w' => r = .returned (.bool false) ∧ Below w.heap.size w w') := fun w => hsi ▸ same_calls b.ev a.ev w
              rw [HB.out]
              clear hki hA hst hsi
              have Hb := Lib.hid hb
              clear hb
              go_wp2_with first
                | go_skip
                | ((with_reducible refine wpList_skip ?hw ?_); (case hw => with_unfolding_all rfl); simp only [Act.put, List.setIfInBounds_toArray, List.set_cons_succ, List.set_cons_zero])
                | ((with_reducible apply wps_loada_el S 1 (hj := Ha.out) (q := 0) (vs := [.int .i64 a.ev.key.at_, .int .i64 a.ev.key.src, .int .i64 a.ev.key.sent, .int .i64 a.ev.key.no, .int .i64 a.ev.dst, .int .i64 a.ev.kind, .int .i64 a.ev.data, .bool a.anti]) (m := 8)); (case hx => rfl); (case hT => decide +kernel); (case hi => rfl); (case hn => omega); (case hm => rfl); (case hv => rfl))
                | ((with_reducible apply wps_loada_el S 1 (hj := Ha.out) (q := 0) (vs := [.int .i64 a.ev.key.at_, .int .i64 a.ev.key.src, .int .i64 a.ev.key.sent, .int .i64 a.ev.key.no, .int .i64 a.ev.dst, .int .i64 a.ev.kind, .int .i64 a.ev.data]) (m := 7)); (case hx => rfl); (case hT => decide +kernel); (case hi => rfl); (case hn => omega); (case hm => rfl); (case hv => rfl))
                | ((with_reducible apply wps_loada_el S 1 (hj := Ha.out) (q := 0) (vs := [.int .i64 a.ev.key.at_, .int .i64 a.ev.key.src, .int .i64 a.ev.key.sent, .int .i64 a.ev.key.no]) (m := 4)); (case hx => rfl); (case hT => decide +kernel); (case hi => rfl); (case hn => omega); (case hm => rfl); (case hv => rfl))
                | ((with_reducible apply wps_load_el S 1 (hj := Ha.out) (q := 0) (u := .int .i64 a.ev.key.at_)); (case hx => rfl); (case hi => rfl); (case hn => omega); (case hT => decide +kernel); (case hu => rfl))
                | ((with_reducible apply wps_load_el S 1 (hj := Ha.out) (q := 1) (u := .int .i64 a.ev.key.src)); (case hx => rfl); (case hi => rfl); (case hn => omega); (case hT => decide +kernel); (case hu => rfl))
                | ((with_reducible apply wps_load_el S 1 (hj := Ha.out) (q := 2) (u := .int .i64 a.ev.key.sent)); (case hx => rfl); (case hi => rfl); (case hn => omega); (case hT => decide +kernel); (case hu => rfl))
                | ((with_reducible apply wps_load_el S 1 (hj := Ha.out) (q := 3) (u := .int .i64 a.ev.key.no)); (case hx => rfl); (case hi => rfl); (case hn => omega); (case hT => decide +kernel); (case hu => rfl))
                | ((with_reducible apply wps_load_el S 1 (hj := Ha.out) (q := 4) (u := .int .i64 a.ev.dst)); (case hx => rfl); (case hi => rfl); (case hn => omega); (case hT => decide +kernel); (case hu => rfl))
                | ((with_reducible apply wps_load_el S 1 (hj := Ha.out) (q := 5) (u := .int .i64 a.ev.kind)); (case hx => rfl); (case hi => rfl); (case hn => omega); (case hT => decide +kernel); (case hu => rfl))
                | ((with_reducible apply wps_load_el S 1 (hj := Ha.out) (q := 6) (u := .int .i64 a.ev.data)); (case hx => rfl); (case hi => rfl); (case hn => omega); (case hT => decide +kernel); (case hu => rfl))
                | ((with_reducible apply wps_load_el S 1 (hj := Ha.out) (q := 7) (u := .bool a.anti)); (case hx => rfl); (case hi => rfl); (case hn => omega); (case hT => decide +kernel); (case hu => rfl))
                | ((with_reducible apply wps_loada_el S 1 (hj := Hb.out) (q := 0) (vs := [.int .i64 b.ev.key.at_, .int .i64 b.ev.key.src, .int .i64 b.ev.key.sent, .int .i64 b.ev.key.no, .int .i64 b.ev.dst, .int .i64 b.ev.kind, .int .i64 b.ev.data, .bool b.anti]) (m := 8)); (case hx => rfl); (case hT => decide +kernel); (case hi => rfl); (case hn => omega); (case hm => rfl); (case hv => rfl))
                | ((with_reducible apply wps_loada_el S 1 (hj := Hb.out) (q := 0) (vs := [.int .i64 b.ev.key.at_, .int .i64 b.ev.key.src, .int .i64 b.ev.key.sent, .int .i64 b.ev.key.no, .int .i64 b.ev.dst, .int .i64 b.ev.kind, .int .i64 b.ev.data]) (m := 7)); (case hx => rfl); (case hT => decide +kernel); (case hi => rfl); (case hn => omega); (case hm => rfl); (case hv => rfl))
                | ((with_reducible apply wps_loada_el S 1 (hj := Hb.out) (q := 0) (vs := [.int .i64 b.ev.key.at_, .int .i64 b.ev.key.src, .int .i64 b.ev.key.sent, .int .i64 b.ev.key.no]) (m := 4)); (case hx => rfl); (case hT => decide +kernel); (case hi => rfl); (case hn => omega); (case hm => rfl); (case hv => rfl))
                | ((with_reducible apply wps_load_el S 1 (hj := Hb.out) (q := 0) (u := .int .i64 b.ev.key.at_)); (case hx => rfl); (case hi => rfl); (case hn => omega); (case hT => decide +kernel); (case hu => rfl))
                | ((with_reducible apply wps_load_el S 1 (hj := Hb.out) (q := 1) (u := .int .i64 b.ev.key.src)); (case hx => rfl); (case hi => rfl); (case hn => omega); (case hT => decide +kernel); (case hu => rfl))
                | ((with_reducible apply wps_load_el S 1 (hj := Hb.out) (q := 2) (u := .int .i64 b.ev.key.sent)); (case hx => rfl); (case hi => rfl); (case hn => omega); (case hT => decide +kernel); (case hu => rfl))
                | ((with_reducible apply wps_load_el S 1 (hj := Hb.out) (q := 3) (u := .int .i64 b.ev.key.no)); (case hx => rfl); (case hi => rfl); (case hn => omega); (case hT => decide +kernel); (case hu => rfl))
                | ((with_reducible apply wps_load_el S 1 (hj := Hb.out) (q := 4) (u := .int .i64 b.ev.dst)); (case hx => rfl); (case hi => rfl); (case hn => omega); (case hT => decide +kernel); (case hu => rfl))
                | ((with_reducible apply wps_load_el S 1 (hj := Hb.out) (q := 5) (u := .int .i64 b.ev.kind)); (case hx => rfl); (case hi => rfl); (case hn => omega); (case hT => decide +kernel); (case hu => rfl))
                | ((with_reducible apply wps_load_el S 1 (hj := Hb.out) (q := 6) (u := .int .i64 b.ev.data)); (case hx => rfl); (case hi => rfl); (case hn => omega); (case hT => decide +kernel); (case hu => rfl))
                | ((with_reducible apply wps_load_el S 1 (hj := Hb.out) (q := 7) (u := .bool b.anti)); (case hx => rfl); (case hi => rfl); (case hn => omega); (case hT => decide +kernel); (case hu => rfl))
                | (go_at_call 28; refine Calls.mono (HC.out _) ?_; rintro e wz ⟨rfl, hE⟩; replace S := S.ext (Keep.of_below hE); clear hE)
                | ((with_reducible refine tot_done ?ht ?_); (case ht => kernel_rfl))
                | ((with_reducible apply wps_text S); (case hm => kernel_rfl); (case hB => decide +kernel); clear S; intro wz S)
                | ((with_reducible apply wps_load S 0); (case hx => rfl); (case hi => rfl); (case hT => decide +kernel); (case hu => rfl))
                | ((with_reducible apply wps_loada (T := 32) (k := 7) S 0); (case hx => rfl); (case hi => rfl); (case hT => decide +kernel); (case hk => exact Nat.le_of_ble_eq_true rfl))
                | ((with_reducible apply wps_loada (T := 34) (k := 8) S 0); (case hx => rfl); (case hi => rfl); (case hT => decide +kernel); (case hk => exact Nat.le_of_ble_eq_true rfl))
                | ((with_reducible apply wps_load S 1); (case hx => rfl); (case hi => rfl); (case hT => decide +kernel); (case hu => rfl))
                | ((with_reducible apply wps_loada (T := 32) (k := 7) S 1); (case hx => rfl); (case hi => rfl); (case hT => decide +kernel); (case hk => exact Nat.le_of_ble_eq_true rfl))
                | ((with_reducible apply wps_loada (T := 34) (k := 8) S 1); (case hx => rfl); (case hi => rfl); (case hT => decide +kernel); (case hk => exact Nat.le_of_ble_eq_true rfl))
              go_roundw
              case rel => exact ⟨k + 1, by omega, by go_num, rfl, HA.out, S⟩
              case measure => first | (simp [intOf]; done) | (simp [intOf]; omega)
            | true =>
              have HC : Hid (∀ w, Calls Try.prog 28 #[.agg #[.int .i64 b.ev.key.at_, .int .i64 b.ev.key.src, .int .i64 b.ev.key.sent, .int .i64 b.ev.key.no, .int .i64 b.ev.dst, .int .i64 b.ev.kind, .int .i64 b.ev.data], .agg #[.int .i64 a.ev.key.at_, .int .i64 a.ev.key.src, .int .i64 a.ev.key.sent, .int .i64 a.ev.key.no, .int .i64 a.ev.dst, .int .i64 a.ev.kind, .int .i64 a.ev.data]] w fun r w' => r = .returned (.bool true) ∧ Below w.heap.size w w') := fun w => hsi ▸ same_calls b.ev a.ev w
              have HB : Hid (aloneTo l i (k + 1) = false) := by rw [hst, hsi]; simp [Hid]
              cases hm : meets b a with
              | true =>
                have HA := Lib.hid (good_step hA (fun a' b' _ ha' hb' _ => by rw [Ha.out] at ha'; cases ha'; rw [hb] at hb'; cases hb'; exact hm))
                obtain ⟨m1, m2⟩ := meets_val hm
                have HM : Hid ((!ceqs b.ev.cells a.ev.cells) = false) := by rw [event_nceqs, m2]; rfl
                clear hki hA hst hsi hm m2
                have Hb := Lib.hid hb
                clear hb
                go_wp2_with first
                  | go_skip
                  | ((with_reducible refine wpList_skip ?hw ?_); (case hw => with_unfolding_all rfl); simp only [Act.put, List.setIfInBounds_toArray, List.set_cons_succ, List.set_cons_zero])
                  | ((with_reducible apply wps_loada_el S 1 (hj := Ha.out) (q := 0) (vs := [.int .i64 a.ev.key.at_, .int .i64 a.ev.key.src, .int .i64 a.ev.key.sent, .int .i64 a.ev.key.no, .int .i64 a.ev.dst, .int .i64 a.ev.kind, .int .i64 a.ev.data, .bool a.anti]) (m := 8)); (case hx => rfl); (case hT => decide +kernel); (case hi => rfl); (case hn => omega); (case hm => rfl); (case hv => rfl))
                  | ((with_reducible apply wps_loada_el S 1 (hj := Ha.out) (q := 0) (vs := [.int .i64 a.ev.key.at_, .int .i64 a.ev.key.src, .int .i64 a.ev.key.sent, .int .i64 a.ev.key.no, .int .i64 a.ev.dst, .int .i64 a.ev.kind, .int .i64 a.ev.data]) (m := 7)); (case hx => rfl); (case hT => decide +kernel); (case hi => rfl); (case hn => omega); (case hm => rfl); (case hv => rfl))
                  | ((with_reducible apply wps_loada_el S 1 (hj := Ha.out) (q := 0) (vs := [.int .i64 a.ev.key.at_, .int .i64 a.ev.key.src, .int .i64 a.ev.key.sent, .int .i64 a.ev.key.no]) (m := 4)); (case hx => rfl); (case hT => decide +kernel); (case hi => rfl); (case hn => omega); (case hm => rfl); (case hv => rfl))
                  | ((with_reducible apply wps_load_el S 1 (hj := Ha.out) (q := 0) (u := .int .i64 a.ev.key.at_)); (case hx => rfl); (case hi => rfl); (case hn => omega); (case hT => decide +kernel); (case hu => rfl))
                  | ((with_reducible apply wps_load_el S 1 (hj := Ha.out) (q := 1) (u := .int .i64 a.ev.key.src)); (case hx => rfl); (case hi => rfl); (case hn => omega); (case hT => decide +kernel); (case hu => rfl))
                  | ((with_reducible apply wps_load_el S 1 (hj := Ha.out) (q := 2) (u := .int .i64 a.ev.key.sent)); (case hx => rfl); (case hi => rfl); (case hn => omega); (case hT => decide +kernel); (case hu => rfl))
                  | ((with_reducible apply wps_load_el S 1 (hj := Ha.out) (q := 3) (u := .int .i64 a.ev.key.no)); (case hx => rfl); (case hi => rfl); (case hn => omega); (case hT => decide +kernel); (case hu => rfl))
                  | ((with_reducible apply wps_load_el S 1 (hj := Ha.out) (q := 4) (u := .int .i64 a.ev.dst)); (case hx => rfl); (case hi => rfl); (case hn => omega); (case hT => decide +kernel); (case hu => rfl))
                  | ((with_reducible apply wps_load_el S 1 (hj := Ha.out) (q := 5) (u := .int .i64 a.ev.kind)); (case hx => rfl); (case hi => rfl); (case hn => omega); (case hT => decide +kernel); (case hu => rfl))
                  | ((with_reducible apply wps_load_el S 1 (hj := Ha.out) (q := 6) (u := .int .i64 a.ev.data)); (case hx => rfl); (case hi => rfl); (case hn => omega); (case hT => decide +kernel); (case hu => rfl))
                  | ((with_reducible apply wps_load_el S 1 (hj := Ha.out) (q := 7) (u := .bool a.anti)); (case hx => rfl); (case hi => rfl); (case hn => omega); (case hT => decide +kernel); (case hu => rfl))
                  | ((with_reducible apply wps_loada_el S 1 (hj := Hb.out) (q := 0) (vs := [.int .i64 b.ev.key.at_, .int .i64 b.ev.key.src, .int .i64 b.ev.key.sent, .int .i64 b.ev.key.no, .int .i64 b.ev.dst, .int .i64 b.ev.kind, .int .i64 b.ev.data, .bool b.anti]) (m := 8)); (case hx => rfl); (case hT => decide +kernel); (case hi => rfl); (case hn => omega); (case hm => rfl); (case hv => rfl))
                  | ((with_reducible apply wps_loada_el S 1 (hj := Hb.out) (q := 0) (vs := [.int .i64 b.ev.key.at_, .int .i64 b.ev.key.src, .int .i64 b.ev.key.sent, .int .i64 b.ev.key.no, .int .i64 b.ev.dst, .int .i64 b.ev.kind, .int .i64 b.ev.data]) (m := 7)); (case hx => rfl); (case hT => decide +kernel); (case hi => rfl); (case hn => omega); (case hm => rfl); (case hv => rfl))
                  | ((with_reducible apply wps_loada_el S 1 (hj := Hb.out) (q := 0) (vs := [.int .i64 b.ev.key.at_, .int .i64 b.ev.key.src, .int .i64 b.ev.key.sent, .int .i64 b.ev.key.no]) (m := 4)); (case hx => rfl); (case hT => decide +kernel); (case hi => rfl); (case hn => omega); (case hm => rfl); (case hv => rfl))
                  | ((with_reducible apply wps_load_el S 1 (hj := Hb.out) (q := 0) (u := .int .i64 b.ev.key.at_)); (case hx => rfl); (case hi => rfl); (case hn => omega); (case hT => decide +kernel); (case hu => rfl))
                  | ((with_reducible apply wps_load_el S 1 (hj := Hb.out) (q := 1) (u := .int .i64 b.ev.key.src)); (case hx => rfl); (case hi => rfl); (case hn => omega); (case hT => decide +kernel); (case hu => rfl))
                  | ((with_reducible apply wps_load_el S 1 (hj := Hb.out) (q := 2) (u := .int .i64 b.ev.key.sent)); (case hx => rfl); (case hi => rfl); (case hn => omega); (case hT => decide +kernel); (case hu => rfl))
                  | ((with_reducible apply wps_load_el S 1 (hj := Hb.out) (q := 3) (u := .int .i64 b.ev.key.no)); (case hx => rfl); (case hi => rfl); (case hn => omega); (case hT => decide +kernel); (case hu => rfl))
                  | ((with_reducible apply wps_load_el S 1 (hj := Hb.out) (q := 4) (u := .int .i64 b.ev.dst)); (case hx => rfl); (case hi => rfl); (case hn => omega); (case hT => decide +kernel); (case hu => rfl))
                  | ((with_reducible apply wps_load_el S 1 (hj := Hb.out) (q := 5) (u := .int .i64 b.ev.kind)); (case hx => rfl); (case hi => rfl); (case hn => omega); (case hT => decide +kernel); (case hu => rfl))
                  | ((with_reducible apply wps_load_el S 1 (hj := Hb.out) (q := 6) (u := .int .i64 b.ev.data)); (case hx => rfl); (case hi => rfl); (case hn => omega); (case hT => decide +kernel); (case hu => rfl))
                  | ((with_reducible apply wps_load_el S 1 (hj := Hb.out) (q := 7) (u := .bool b.anti)); (case hx => rfl); (case hi => rfl); (case hn => omega); (case hT => decide +kernel); (case hu => rfl))
                  | (go_at_call 28; refine Calls.mono (HC.out _) ?_; rintro e wz ⟨rfl, hE⟩; replace S := S.ext (Keep.of_below hE); clear hE)
                  | ((with_reducible apply wpList_neq_agg (t := 32) (ks := [.int .i64, .int .i64, .int .i64, .int .i64, .int .i64, .int .i64, .int .i64]) (b := _)); (case hx => rfl); (case hy => rfl); (case hl => kernel_rfl); (case ha => kernel_rfl); (case hg => kernel_rfl); (case hfx => rfl); (case hfy => rfl); (case hb => exact HM.out))
                  | ((with_reducible refine tot_done ?ht ?_); (case ht => kernel_rfl))
                  | ((with_reducible apply wps_text S); (case hm => kernel_rfl); (case hB => decide +kernel); clear S; intro wz S)
                  | ((with_reducible apply wps_load S 0); (case hx => rfl); (case hi => rfl); (case hT => decide +kernel); (case hu => rfl))
                  | ((with_reducible apply wps_loada (T := 32) (k := 7) S 0); (case hx => rfl); (case hi => rfl); (case hT => decide +kernel); (case hk => exact Nat.le_of_ble_eq_true rfl))
                  | ((with_reducible apply wps_loada (T := 34) (k := 8) S 0); (case hx => rfl); (case hi => rfl); (case hT => decide +kernel); (case hk => exact Nat.le_of_ble_eq_true rfl))
                  | ((with_reducible apply wps_load S 1); (case hx => rfl); (case hi => rfl); (case hT => decide +kernel); (case hu => rfl))
                  | ((with_reducible apply wps_loada (T := 32) (k := 7) S 1); (case hx => rfl); (case hi => rfl); (case hT => decide +kernel); (case hk => exact Nat.le_of_ble_eq_true rfl))
                  | ((with_reducible apply wps_loada (T := 34) (k := 8) S 1); (case hx => rfl); (case hi => rfl); (case hT => decide +kernel); (case hk => exact Nat.le_of_ble_eq_true rfl))
                go_roundw
                case rel => exact ⟨k + 1, by omega, by go_num, by rw [HB.out], HA.out, S⟩
                case measure => first | (simp [intOf]; done) | (simp [intOf]; omega)
              | false =>
                have HBad : Hid (Bad l) := ⟨k, i, b, a, hki, hb, Ha.out, hsi, hm⟩
                have hmm : (b.anti == a.anti) = true ∨ ((b.anti == a.anti) = false ∧ decide (b.ev = a.ev) = false) := by
                  unfold meets at hm
                  cases hx : (b.anti == a.anti) with
                  | true => exact .inl rfl
                  | false =>
                    refine .inr ⟨rfl, ?_⟩
                    cases hy : decide (b.ev = a.ev) with
                    | false => rfl
                    | true => rw [hy] at hm; simp at hm hx; exact absurd hm hx
                clear hki hA hst hsi hm
                have Hb := Lib.hid hb
                clear hb
                rcases hmm with m1 | ⟨m1, m2⟩
                · skip
                  go_wp2_with first
                    | go_skip
                    | ((with_reducible refine wpList_skip ?hw ?_); (case hw => with_unfolding_all rfl); simp only [Act.put, List.setIfInBounds_toArray, List.set_cons_succ, List.set_cons_zero])
                    | ((with_reducible apply wps_loada_el S 1 (hj := Ha.out) (q := 0) (vs := [.int .i64 a.ev.key.at_, .int .i64 a.ev.key.src, .int .i64 a.ev.key.sent, .int .i64 a.ev.key.no, .int .i64 a.ev.dst, .int .i64 a.ev.kind, .int .i64 a.ev.data, .bool a.anti]) (m := 8)); (case hx => rfl); (case hT => decide +kernel); (case hi => rfl); (case hn => omega); (case hm => rfl); (case hv => rfl))
                    | ((with_reducible apply wps_loada_el S 1 (hj := Ha.out) (q := 0) (vs := [.int .i64 a.ev.key.at_, .int .i64 a.ev.key.src, .int .i64 a.ev.key.sent, .int .i64 a.ev.key.no, .int .i64 a.ev.dst, .int .i64 a.ev.kind, .int .i64 a.ev.data]) (m := 7)); (case hx => rfl); (case hT => decide +kernel); (case hi => rfl); (case hn => omega); (case hm => rfl); (case hv => rfl))
                    | ((with_reducible apply wps_loada_el S 1 (hj := Ha.out) (q := 0) (vs := [.int .i64 a.ev.key.at_, .int .i64 a.ev.key.src, .int .i64 a.ev.key.sent, .int .i64 a.ev.key.no]) (m := 4)); (case hx => rfl); (case hT => decide +kernel); (case hi => rfl); (case hn => omega); (case hm => rfl); (case hv => rfl))
                    | ((with_reducible apply wps_load_el S 1 (hj := Ha.out) (q := 0) (u := .int .i64 a.ev.key.at_)); (case hx => rfl); (case hi => rfl); (case hn => omega); (case hT => decide +kernel); (case hu => rfl))
                    | ((with_reducible apply wps_load_el S 1 (hj := Ha.out) (q := 1) (u := .int .i64 a.ev.key.src)); (case hx => rfl); (case hi => rfl); (case hn => omega); (case hT => decide +kernel); (case hu => rfl))
                    | ((with_reducible apply wps_load_el S 1 (hj := Ha.out) (q := 2) (u := .int .i64 a.ev.key.sent)); (case hx => rfl); (case hi => rfl); (case hn => omega); (case hT => decide +kernel); (case hu => rfl))
                    | ((with_reducible apply wps_load_el S 1 (hj := Ha.out) (q := 3) (u := .int .i64 a.ev.key.no)); (case hx => rfl); (case hi => rfl); (case hn => omega); (case hT => decide +kernel); (case hu => rfl))
                    | ((with_reducible apply wps_load_el S 1 (hj := Ha.out) (q := 4) (u := .int .i64 a.ev.dst)); (case hx => rfl); (case hi => rfl); (case hn => omega); (case hT => decide +kernel); (case hu => rfl))
                    | ((with_reducible apply wps_load_el S 1 (hj := Ha.out) (q := 5) (u := .int .i64 a.ev.kind)); (case hx => rfl); (case hi => rfl); (case hn => omega); (case hT => decide +kernel); (case hu => rfl))
                    | ((with_reducible apply wps_load_el S 1 (hj := Ha.out) (q := 6) (u := .int .i64 a.ev.data)); (case hx => rfl); (case hi => rfl); (case hn => omega); (case hT => decide +kernel); (case hu => rfl))
                    | ((with_reducible apply wps_load_el S 1 (hj := Ha.out) (q := 7) (u := .bool a.anti)); (case hx => rfl); (case hi => rfl); (case hn => omega); (case hT => decide +kernel); (case hu => rfl))
                    | ((with_reducible apply wps_loada_el S 1 (hj := Hb.out) (q := 0) (vs := [.int .i64 b.ev.key.at_, .int .i64 b.ev.key.src, .int .i64 b.ev.key.sent, .int .i64 b.ev.key.no, .int .i64 b.ev.dst, .int .i64 b.ev.kind, .int .i64 b.ev.data, .bool b.anti]) (m := 8)); (case hx => rfl); (case hT => decide +kernel); (case hi => rfl); (case hn => omega); (case hm => rfl); (case hv => rfl))
                    | ((with_reducible apply wps_loada_el S 1 (hj := Hb.out) (q := 0) (vs := [.int .i64 b.ev.key.at_, .int .i64 b.ev.key.src, .int .i64 b.ev.key.sent, .int .i64 b.ev.key.no, .int .i64 b.ev.dst, .int .i64 b.ev.kind, .int .i64 b.ev.data]) (m := 7)); (case hx => rfl); (case hT => decide +kernel); (case hi => rfl); (case hn => omega); (case hm => rfl); (case hv => rfl))
                    | ((with_reducible apply wps_loada_el S 1 (hj := Hb.out) (q := 0) (vs := [.int .i64 b.ev.key.at_, .int .i64 b.ev.key.src, .int .i64 b.ev.key.sent, .int .i64 b.ev.key.no]) (m := 4)); (case hx => rfl); (case hT => decide +kernel); (case hi => rfl); (case hn => omega); (case hm => rfl); (case hv => rfl))
                    | ((with_reducible apply wps_load_el S 1 (hj := Hb.out) (q := 0) (u := .int .i64 b.ev.key.at_)); (case hx => rfl); (case hi => rfl); (case hn => omega); (case hT => decide +kernel); (case hu => rfl))
                    | ((with_reducible apply wps_load_el S 1 (hj := Hb.out) (q := 1) (u := .int .i64 b.ev.key.src)); (case hx => rfl); (case hi => rfl); (case hn => omega); (case hT => decide +kernel); (case hu => rfl))
                    | ((with_reducible apply wps_load_el S 1 (hj := Hb.out) (q := 2) (u := .int .i64 b.ev.key.sent)); (case hx => rfl); (case hi => rfl); (case hn => omega); (case hT => decide +kernel); (case hu => rfl))
                    | ((with_reducible apply wps_load_el S 1 (hj := Hb.out) (q := 3) (u := .int .i64 b.ev.key.no)); (case hx => rfl); (case hi => rfl); (case hn => omega); (case hT => decide +kernel); (case hu => rfl))
                    | ((with_reducible apply wps_load_el S 1 (hj := Hb.out) (q := 4) (u := .int .i64 b.ev.dst)); (case hx => rfl); (case hi => rfl); (case hn => omega); (case hT => decide +kernel); (case hu => rfl))
                    | ((with_reducible apply wps_load_el S 1 (hj := Hb.out) (q := 5) (u := .int .i64 b.ev.kind)); (case hx => rfl); (case hi => rfl); (case hn => omega); (case hT => decide +kernel); (case hu => rfl))
                    | ((with_reducible apply wps_load_el S 1 (hj := Hb.out) (q := 6) (u := .int .i64 b.ev.data)); (case hx => rfl); (case hi => rfl); (case hn => omega); (case hT => decide +kernel); (case hu => rfl))
                    | ((with_reducible apply wps_load_el S 1 (hj := Hb.out) (q := 7) (u := .bool b.anti)); (case hx => rfl); (case hi => rfl); (case hn => omega); (case hT => decide +kernel); (case hu => rfl))
                    | (go_at_call 28; refine Calls.mono (HC.out _) ?_; rintro e wz ⟨rfl, hE⟩; replace S := S.ext (Keep.of_below hE); clear hE)
                    | ((with_reducible refine tot_done ?ht ?_); (case ht => kernel_rfl))
                    | ((with_reducible apply wps_text S); (case hm => kernel_rfl); (case hB => decide +kernel); clear S; intro wz S)
                    | ((with_reducible apply wps_load S 0); (case hx => rfl); (case hi => rfl); (case hT => decide +kernel); (case hu => rfl))
                    | ((with_reducible apply wps_loada (T := 32) (k := 7) S 0); (case hx => rfl); (case hi => rfl); (case hT => decide +kernel); (case hk => exact Nat.le_of_ble_eq_true rfl))
                    | ((with_reducible apply wps_loada (T := 34) (k := 8) S 0); (case hx => rfl); (case hi => rfl); (case hT => decide +kernel); (case hk => exact Nat.le_of_ble_eq_true rfl))
                    | ((with_reducible apply wps_load S 1); (case hx => rfl); (case hi => rfl); (case hT => decide +kernel); (case hu => rfl))
                    | ((with_reducible apply wps_loada (T := 32) (k := 7) S 1); (case hx => rfl); (case hi => rfl); (case hT => decide +kernel); (case hk => exact Nat.le_of_ble_eq_true rfl))
                    | ((with_reducible apply wps_loada (T := 34) (k := 8) S 1); (case hx => rfl); (case hi => rfl); (case hT => decide +kernel); (case hk => exact Nat.le_of_ble_eq_true rfl))
                  go_ret2
                  exact .inl ⟨HBad.out, rfl, S.below⟩
                · have HM : Hid ((!ceqs b.ev.cells a.ev.cells) = true) := by rw [event_nceqs, m2]; rfl
                  clear m2
                  go_wp2_with first
                    | go_skip
                    | ((with_reducible refine wpList_skip ?hw ?_); (case hw => with_unfolding_all rfl); simp only [Act.put, List.setIfInBounds_toArray, List.set_cons_succ, List.set_cons_zero])
                    | ((with_reducible apply wps_loada_el S 1 (hj := Ha.out) (q := 0) (vs := [.int .i64 a.ev.key.at_, .int .i64 a.ev.key.src, .int .i64 a.ev.key.sent, .int .i64 a.ev.key.no, .int .i64 a.ev.dst, .int .i64 a.ev.kind, .int .i64 a.ev.data, .bool a.anti]) (m := 8)); (case hx => rfl); (case hT => decide +kernel); (case hi => rfl); (case hn => omega); (case hm => rfl); (case hv => rfl))
                    | ((with_reducible apply wps_loada_el S 1 (hj := Ha.out) (q := 0) (vs := [.int .i64 a.ev.key.at_, .int .i64 a.ev.key.src, .int .i64 a.ev.key.sent, .int .i64 a.ev.key.no, .int .i64 a.ev.dst, .int .i64 a.ev.kind, .int .i64 a.ev.data]) (m := 7)); (case hx => rfl); (case hT => decide +kernel); (case hi => rfl); (case hn => omega); (case hm => rfl); (case hv => rfl))
                    | ((with_reducible apply wps_loada_el S 1 (hj := Ha.out) (q := 0) (vs := [.int .i64 a.ev.key.at_, .int .i64 a.ev.key.src, .int .i64 a.ev.key.sent, .int .i64 a.ev.key.no]) (m := 4)); (case hx => rfl); (case hT => decide +kernel); (case hi => rfl); (case hn => omega); (case hm => rfl); (case hv => rfl))
                    | ((with_reducible apply wps_load_el S 1 (hj := Ha.out) (q := 0) (u := .int .i64 a.ev.key.at_)); (case hx => rfl); (case hi => rfl); (case hn => omega); (case hT => decide +kernel); (case hu => rfl))
                    | ((with_reducible apply wps_load_el S 1 (hj := Ha.out) (q := 1) (u := .int .i64 a.ev.key.src)); (case hx => rfl); (case hi => rfl); (case hn => omega); (case hT => decide +kernel); (case hu => rfl))
                    | ((with_reducible apply wps_load_el S 1 (hj := Ha.out) (q := 2) (u := .int .i64 a.ev.key.sent)); (case hx => rfl); (case hi => rfl); (case hn => omega); (case hT => decide +kernel); (case hu => rfl))
                    | ((with_reducible apply wps_load_el S 1 (hj := Ha.out) (q := 3) (u := .int .i64 a.ev.key.no)); (case hx => rfl); (case hi => rfl); (case hn => omega); (case hT => decide +kernel); (case hu => rfl))
                    | ((with_reducible apply wps_load_el S 1 (hj := Ha.out) (q := 4) (u := .int .i64 a.ev.dst)); (case hx => rfl); (case hi => rfl); (case hn => omega); (case hT => decide +kernel); (case hu => rfl))
                    | ((with_reducible apply wps_load_el S 1 (hj := Ha.out) (q := 5) (u := .int .i64 a.ev.kind)); (case hx => rfl); (case hi => rfl); (case hn => omega); (case hT => decide +kernel); (case hu => rfl))
                    | ((with_reducible apply wps_load_el S 1 (hj := Ha.out) (q := 6) (u := .int .i64 a.ev.data)); (case hx => rfl); (case hi => rfl); (case hn => omega); (case hT => decide +kernel); (case hu => rfl))
                    | ((with_reducible apply wps_load_el S 1 (hj := Ha.out) (q := 7) (u := .bool a.anti)); (case hx => rfl); (case hi => rfl); (case hn => omega); (case hT => decide +kernel); (case hu => rfl))
                    | ((with_reducible apply wps_loada_el S 1 (hj := Hb.out) (q := 0) (vs := [.int .i64 b.ev.key.at_, .int .i64 b.ev.key.src, .int .i64 b.ev.key.sent, .int .i64 b.ev.key.no, .int .i64 b.ev.dst, .int .i64 b.ev.kind, .int .i64 b.ev.data, .bool b.anti]) (m := 8)); (case hx => rfl); (case hT => decide +kernel); (case hi => rfl); (case hn => omega); (case hm => rfl); (case hv => rfl))
                    | ((with_reducible apply wps_loada_el S 1 (hj := Hb.out) (q := 0) (vs := [.int .i64 b.ev.key.at_, .int .i64 b.ev.key.src, .int .i64 b.ev.key.sent, .int .i64 b.ev.key.no, .int .i64 b.ev.dst, .int .i64 b.ev.kind, .int .i64 b.ev.data]) (m := 7)); (case hx => rfl); (case hT => decide +kernel); (case hi => rfl); (case hn => omega); (case hm => rfl); (case hv => rfl))
                    | ((with_reducible apply wps_loada_el S 1 (hj := Hb.out) (q := 0) (vs := [.int .i64 b.ev.key.at_, .int .i64 b.ev.key.src, .int .i64 b.ev.key.sent, .int .i64 b.ev.key.no]) (m := 4)); (case hx => rfl); (case hT => decide +kernel); (case hi => rfl); (case hn => omega); (case hm => rfl); (case hv => rfl))
                    | ((with_reducible apply wps_load_el S 1 (hj := Hb.out) (q := 0) (u := .int .i64 b.ev.key.at_)); (case hx => rfl); (case hi => rfl); (case hn => omega); (case hT => decide +kernel); (case hu => rfl))
                    | ((with_reducible apply wps_load_el S 1 (hj := Hb.out) (q := 1) (u := .int .i64 b.ev.key.src)); (case hx => rfl); (case hi => rfl); (case hn => omega); (case hT => decide +kernel); (case hu => rfl))
                    | ((with_reducible apply wps_load_el S 1 (hj := Hb.out) (q := 2) (u := .int .i64 b.ev.key.sent)); (case hx => rfl); (case hi => rfl); (case hn => omega); (case hT => decide +kernel); (case hu => rfl))
                    | ((with_reducible apply wps_load_el S 1 (hj := Hb.out) (q := 3) (u := .int .i64 b.ev.key.no)); (case hx => rfl); (case hi => rfl); (case hn => omega); (case hT => decide +kernel); (case hu => rfl))
                    | ((with_reducible apply wps_load_el S 1 (hj := Hb.out) (q := 4) (u := .int .i64 b.ev.dst)); (case hx => rfl); (case hi => rfl); (case hn => omega); (case hT => decide +kernel); (case hu => rfl))
                    | ((with_reducible apply wps_load_el S 1 (hj := Hb.out) (q := 5) (u := .int .i64 b.ev.kind)); (case hx => rfl); (case hi => rfl); (case hn => omega); (case hT => decide +kernel); (case hu => rfl))
                    | ((with_reducible apply wps_load_el S 1 (hj := Hb.out) (q := 6) (u := .int .i64 b.ev.data)); (case hx => rfl); (case hi => rfl); (case hn => omega); (case hT => decide +kernel); (case hu => rfl))
                    | ((with_reducible apply wps_load_el S 1 (hj := Hb.out) (q := 7) (u := .bool b.anti)); (case hx => rfl); (case hi => rfl); (case hn => omega); (case hT => decide +kernel); (case hu => rfl))
                    | (go_at_call 28; refine Calls.mono (HC.out _) ?_; rintro e wz ⟨rfl, hE⟩; replace S := S.ext (Keep.of_below hE); clear hE)
                    | ((with_reducible apply wpList_neq_agg (t := 32) (ks := [.int .i64, .int .i64, .int .i64, .int .i64, .int .i64, .int .i64, .int .i64]) (b := _)); (case hx => rfl); (case hy => rfl); (case hl => kernel_rfl); (case ha => kernel_rfl); (case hg => kernel_rfl); (case hfx => rfl); (case hfy => rfl); (case hb => exact HM.out))
                    | ((with_reducible refine tot_done ?ht ?_); (case ht => kernel_rfl))
                    | ((with_reducible apply wps_text S); (case hm => kernel_rfl); (case hB => decide +kernel); clear S; intro wz S)
                    | ((with_reducible apply wps_load S 0); (case hx => rfl); (case hi => rfl); (case hT => decide +kernel); (case hu => rfl))
                    | ((with_reducible apply wps_loada (T := 32) (k := 7) S 0); (case hx => rfl); (case hi => rfl); (case hT => decide +kernel); (case hk => exact Nat.le_of_ble_eq_true rfl))
                    | ((with_reducible apply wps_loada (T := 34) (k := 8) S 0); (case hx => rfl); (case hi => rfl); (case hT => decide +kernel); (case hk => exact Nat.le_of_ble_eq_true rfl))
                    | ((with_reducible apply wps_load S 1); (case hx => rfl); (case hi => rfl); (case hT => decide +kernel); (case hu => rfl))
                    | ((with_reducible apply wps_loada (T := 32) (k := 7) S 1); (case hx => rfl); (case hi => rfl); (case hT => decide +kernel); (case hk => exact Nat.le_of_ble_eq_true rfl))
                    | ((with_reducible apply wps_loada (T := 34) (k := 8) S 1); (case hx => rfl); (case hi => rfl); (case hT => decide +kernel); (case hk => exact Nat.le_of_ble_eq_true rfl))
                  go_ret2
                  exact .inl ⟨HBad.out, rfl, S.below⟩
        · obtain rfl : k = l.length := by omega
          have HG2 : Hid (GoodTo l (i + 1)) := fun x hx => by
            by_cases e : x = i
            · subst e; exact hA
            · exact HG.out x (by omega)
          clear hA hkl
          cases hal : aloneTo l i l.length with
          | true =>
            have HS := Lib.hid (leftTo_one Ha.out ((alone_at l i).symm.trans hal))
            clear hal
            go_wp2_with first
              | go_skip
              | ((with_reducible refine wpList_skip ?hw ?_); (case hw => with_unfolding_all rfl); simp only [Act.put, List.setIfInBounds_toArray, List.set_cons_succ, List.set_cons_zero])
              | ((with_reducible apply wps_loada_el S 1 (hj := Ha.out) (q := 0) (vs := [.int .i64 a.ev.key.at_, .int .i64 a.ev.key.src, .int .i64 a.ev.key.sent, .int .i64 a.ev.key.no, .int .i64 a.ev.dst, .int .i64 a.ev.kind, .int .i64 a.ev.data, .bool a.anti]) (m := 8)); (case hx => rfl); (case hT => decide +kernel); (case hi => rfl); (case hn => omega); (case hm => rfl); (case hv => rfl))
              | ((with_reducible apply wps_loada_el S 1 (hj := Ha.out) (q := 0) (vs := [.int .i64 a.ev.key.at_, .int .i64 a.ev.key.src, .int .i64 a.ev.key.sent, .int .i64 a.ev.key.no, .int .i64 a.ev.dst, .int .i64 a.ev.kind, .int .i64 a.ev.data]) (m := 7)); (case hx => rfl); (case hT => decide +kernel); (case hi => rfl); (case hn => omega); (case hm => rfl); (case hv => rfl))
              | ((with_reducible apply wps_loada_el S 1 (hj := Ha.out) (q := 0) (vs := [.int .i64 a.ev.key.at_, .int .i64 a.ev.key.src, .int .i64 a.ev.key.sent, .int .i64 a.ev.key.no]) (m := 4)); (case hx => rfl); (case hT => decide +kernel); (case hi => rfl); (case hn => omega); (case hm => rfl); (case hv => rfl))
              | ((with_reducible apply wps_load_el S 1 (hj := Ha.out) (q := 0) (u := .int .i64 a.ev.key.at_)); (case hx => rfl); (case hi => rfl); (case hn => omega); (case hT => decide +kernel); (case hu => rfl))
              | ((with_reducible apply wps_load_el S 1 (hj := Ha.out) (q := 1) (u := .int .i64 a.ev.key.src)); (case hx => rfl); (case hi => rfl); (case hn => omega); (case hT => decide +kernel); (case hu => rfl))
              | ((with_reducible apply wps_load_el S 1 (hj := Ha.out) (q := 2) (u := .int .i64 a.ev.key.sent)); (case hx => rfl); (case hi => rfl); (case hn => omega); (case hT => decide +kernel); (case hu => rfl))
              | ((with_reducible apply wps_load_el S 1 (hj := Ha.out) (q := 3) (u := .int .i64 a.ev.key.no)); (case hx => rfl); (case hi => rfl); (case hn => omega); (case hT => decide +kernel); (case hu => rfl))
              | ((with_reducible apply wps_load_el S 1 (hj := Ha.out) (q := 4) (u := .int .i64 a.ev.dst)); (case hx => rfl); (case hi => rfl); (case hn => omega); (case hT => decide +kernel); (case hu => rfl))
              | ((with_reducible apply wps_load_el S 1 (hj := Ha.out) (q := 5) (u := .int .i64 a.ev.kind)); (case hx => rfl); (case hi => rfl); (case hn => omega); (case hT => decide +kernel); (case hu => rfl))
              | ((with_reducible apply wps_load_el S 1 (hj := Ha.out) (q := 6) (u := .int .i64 a.ev.data)); (case hx => rfl); (case hi => rfl); (case hn => omega); (case hT => decide +kernel); (case hu => rfl))
              | ((with_reducible apply wps_load_el S 1 (hj := Ha.out) (q := 7) (u := .bool a.anti)); (case hx => rfl); (case hi => rfl); (case hn => omega); (case hT => decide +kernel); (case hu => rfl))
              | ((with_reducible apply wps_build1a (E := 34) S); (case hx => rfl); (case hr => intro w; kernel_rfl); clear S; intro bz wz S)
              | ((with_reducible apply wps_append1 elem_Msg mcells mone (by decide) S 1 (j := 0) (e := a)); (case hx => rfl); (case hy => rfl); (case hi => rfl); (case hj => rfl); (case he => rfl); (case hl => first | omega | (simp; omega)); clear S; intro az nz cz wz hnz S; simp only [List.set_cons_succ, List.set_cons_zero] at S)
              | ((with_reducible refine tot_done ?ht ?_); (case ht => kernel_rfl))
              | ((with_reducible apply wps_text S); (case hm => kernel_rfl); (case hB => decide +kernel); clear S; intro wz S)
              | ((with_reducible apply wps_load S 0); (case hx => rfl); (case hi => rfl); (case hT => decide +kernel); (case hu => rfl))
              | ((with_reducible apply wps_loada (T := 32) (k := 7) S 0); (case hx => rfl); (case hi => rfl); (case hT => decide +kernel); (case hk => exact Nat.le_of_ble_eq_true rfl))
              | ((with_reducible apply wps_loada (T := 34) (k := 8) S 0); (case hx => rfl); (case hi => rfl); (case hT => decide +kernel); (case hk => exact Nat.le_of_ble_eq_true rfl))
              | ((with_reducible apply wps_load S 1); (case hx => rfl); (case hi => rfl); (case hT => decide +kernel); (case hu => rfl))
              | ((with_reducible apply wps_loada (T := 32) (k := 7) S 1); (case hx => rfl); (case hi => rfl); (case hT => decide +kernel); (case hk => exact Nat.le_of_ble_eq_true rfl))
              | ((with_reducible apply wps_loada (T := 34) (k := 8) S 1); (case hx => rfl); (case hi => rfl); (case hT => decide +kernel); (case hk => exact Nat.le_of_ble_eq_true rfl))
            go_roundw
            case rel => exact ⟨i + 1, by omega, by go_num, HG2.out, by rw [HS.out]; exact S.pick [1, 2] rfl⟩
            case measure => first | (simp [intOf]; done) | (simp [intOf]; omega)
          | false =>
            have HS := Lib.hid (leftTo_not Ha.out ((alone_at l i).symm.trans hal))
            clear hal
            go_wp2_with first
              | go_skip
              | ((with_reducible refine wpList_skip ?hw ?_); (case hw => with_unfolding_all rfl); simp only [Act.put, List.setIfInBounds_toArray, List.set_cons_succ, List.set_cons_zero])
              | ((with_reducible refine tot_done ?ht ?_); (case ht => kernel_rfl))
              | ((with_reducible apply wps_text S); (case hm => kernel_rfl); (case hB => decide +kernel); clear S; intro wz S)
              | ((with_reducible apply wps_load S 0); (case hx => rfl); (case hi => rfl); (case hT => decide +kernel); (case hu => rfl))
              | ((with_reducible apply wps_loada (T := 32) (k := 7) S 0); (case hx => rfl); (case hi => rfl); (case hT => decide +kernel); (case hk => exact Nat.le_of_ble_eq_true rfl))
              | ((with_reducible apply wps_loada (T := 34) (k := 8) S 0); (case hx => rfl); (case hi => rfl); (case hT => decide +kernel); (case hk => exact Nat.le_of_ble_eq_true rfl))
              | ((with_reducible apply wps_load S 1); (case hx => rfl); (case hi => rfl); (case hT => decide +kernel); (case hu => rfl))
              | ((with_reducible apply wps_loada (T := 32) (k := 7) S 1); (case hx => rfl); (case hi => rfl); (case hT => decide +kernel); (case hk => exact Nat.le_of_ble_eq_true rfl))
              | ((with_reducible apply wps_loada (T := 34) (k := 8) S 1); (case hx => rfl); (case hi => rfl); (case hT => decide +kernel); (case hk => exact Nat.le_of_ble_eq_true rfl))
            go_roundw
            case rel => exact ⟨i + 1, by omega, by go_num, HG2.out, by rw [HS.out]; exact S⟩
            case measure => first | (simp [intOf]; done) | (simp [intOf]; omega)
    · obtain rfl : i = l.length := by omega
      have HNB := Lib.hid (good_not HG.out)
      go_wp2_with first
        | go_skip
        | ((with_reducible refine wpList_skip ?hw ?_); (case hw => with_unfolding_all rfl); simp only [Act.put, List.setIfInBounds_toArray, List.set_cons_succ, List.set_cons_zero])
        | ((with_reducible refine tot_done ?ht ?_); (case ht => kernel_rfl))
        | ((with_reducible apply wps_text S); (case hm => kernel_rfl); (case hB => decide +kernel); clear S; intro wz S)
        | ((with_reducible apply wps_load S 0); (case hx => rfl); (case hi => rfl); (case hT => decide +kernel); (case hu => rfl))
        | ((with_reducible apply wps_loada (T := 32) (k := 7) S 0); (case hx => rfl); (case hi => rfl); (case hT => decide +kernel); (case hk => exact Nat.le_of_ble_eq_true rfl))
        | ((with_reducible apply wps_loada (T := 34) (k := 8) S 0); (case hx => rfl); (case hi => rfl); (case hT => decide +kernel); (case hk => exact Nat.le_of_ble_eq_true rfl))
        | ((with_reducible apply wps_load S 1); (case hx => rfl); (case hi => rfl); (case hT => decide +kernel); (case hu => rfl))
        | ((with_reducible apply wps_loada (T := 32) (k := 7) S 1); (case hx => rfl); (case hi => rfl); (case hT => decide +kernel); (case hk => exact Nat.le_of_ble_eq_true rfl))
        | ((with_reducible apply wps_loada (T := 34) (k := 8) S 1); (case hx => rfl); (case hi => rfl); (case hT => decide +kernel); (case hk => exact Nat.le_of_ble_eq_true rfl))
      go_ret2
      exact .inr ⟨HNB.out, ad0, c0, rfl, S.pick [0] rfl⟩
end Go.Proofs.Ytejdfgonkfgnfaa

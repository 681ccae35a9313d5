import Derived.Test.YtmpfbkfemlhekaaGreatDoorB09
import Derived.Test.YtmpfbkfemlhekaaGreatDoorB07
import Derived.Test.YtmpfbkfemlhekaaGreatDoorB06
/- The walk of slices.SortStableFunc's insertion sort, and of the comparator. -/
namespace Go.Proofs.YtmpfbkfemlhekaaGreatDoor
open Go Go.RowKit Reg Mem

set_option maxRecDepth 100000 in
set_option maxHeartbeats 4000000 in
theorem cmpEv_calls (a b : Event) (w : World) : Calls Tryz.prog 123 #[.agg #[.int .i64 a.key.at_, .int .i64 a.key.src, .int .i64 a.key.sent, .int .i64 a.key.no, .int .i64 a.dst, .int .i64 a.kind, .int .i64 a.data], .agg #[.int .i64 b.key.at_, .int .i64 b.key.src, .int .i64 b.key.sent, .int .i64 b.key.no, .int .i64 b.dst, .int .i64 b.kind, .int .i64 b.data]] w fun e w' => e = .returned (.int .i64 (a.key.cmp b.key)) ∧ Below w.heap.size w w' := by
  have S := St.init (fun _ => False) w
  go_enter Tryz.func123, Tryz.ntmps123
  go_wp2_with first | (go_at_call 124; refine Calls.mono (compare_calls _ _ _ _ _ _ _ _ _) ?_; rintro e wz ⟨rfl, hE⟩; replace S := S.ext (Keep.of_below hE); clear hE) | ((with_reducible refine tot_done ?ht ?_); (case ht => kernel_rfl)) | ((with_reducible apply wps_boxa S); (case hx => rfl); clear S; intro bz wz S) | ((with_reducible apply wps_box1 (v := .int _ _) S); (case hx | h1 => rfl); clear S; intro bz wz S) | ((with_reducible apply wps_box1 (v := .bool _) S); (case hx | h1 => rfl); clear S; intro bz wz S) | ((with_reducible apply wps_box1 (v := .slice _ _ _) S); (case hx | h1 => rfl); clear S; intro bz wz S) | ((with_reducible apply wps_box1 (v := .pointer _) S); (case hx | h1 => rfl); clear S; intro bz wz S) | ((with_reducible apply wps_box1 (v := .map _) S); (case hx | h1 => rfl); clear S; intro bz wz S) | ((with_reducible apply wps_box1 (v := .string _) S); (case hx | h1 => rfl); clear S; intro bz wz S) | ((with_reducible apply wps_box1 (v := .func _ _ _) S); (case hx | h1 => rfl); clear S; intro bz wz S) | ((with_reducible apply wps_loada (T := 46) (k := 4) S 0); (case hx | hi => rfl); (case hk => exact Nat.le_of_ble_eq_true rfl); (case hT => decide +kernel)) | ((with_reducible apply wps_loada (T := 46) (k := 4) S 1); (case hx | hi => rfl); (case hk => exact Nat.le_of_ble_eq_true rfl); (case hT => decide +kernel)) | ((with_reducible apply wps_loada (T := 46) (k := 4) S 2); (case hx | hi => rfl); (case hk => exact Nat.le_of_ble_eq_true rfl); (case hT => decide +kernel)) | ((with_reducible apply wps_loada (T := 46) (k := 4) S 3); (case hx | hi => rfl); (case hk => exact Nat.le_of_ble_eq_true rfl); (case hT => decide +kernel))
  go_ret
  exact ⟨rfl, S.below⟩
theorem cmpEv_yes {x y : TE} (h : tless x y = true) (w : World) : Calls Tryz.prog 123 #[.agg #[.int .i64 x.1.key.at_, .int .i64 x.1.key.src, .int .i64 x.1.key.sent, .int .i64 x.1.key.no, .int .i64 x.1.dst, .int .i64 x.1.kind, .int .i64 x.1.data], .agg #[.int .i64 y.1.key.at_, .int .i64 y.1.key.src, .int .i64 y.1.key.sent, .int .i64 y.1.key.no, .int .i64 y.1.dst, .int .i64 y.1.kind, .int .i64 y.1.data]] w fun e w' => e = .returned (.int .i64 (-1)) ∧ Below w.heap.size w w' :=
  (cmpEv_calls x.1 y.1 w).mono fun e w' ⟨he, hb⟩ => ⟨by rw [he]; unfold Key.cmp; rw [if_pos (show x.1.key.lt y.1.key = true from h)], hb⟩
theorem cmpEv_no {x y : TE} (h : tless x y = false) (w : World) : Calls Tryz.prog 123 #[.agg #[.int .i64 x.1.key.at_, .int .i64 x.1.key.src, .int .i64 x.1.key.sent, .int .i64 x.1.key.no, .int .i64 x.1.dst, .int .i64 x.1.kind, .int .i64 x.1.data], .agg #[.int .i64 y.1.key.at_, .int .i64 y.1.key.src, .int .i64 y.1.key.sent, .int .i64 y.1.key.no, .int .i64 y.1.dst, .int .i64 y.1.kind, .int .i64 y.1.data]] w fun e w' => (∃ c : Int, 0 ≤ c ∧ e = .returned (.int .i64 c)) ∧ Below w.heap.size w w' :=
  (cmpEv_calls x.1 y.1 w).mono fun e w' ⟨he, hb⟩ => ⟨⟨x.1.key.cmp y.1.key, by unfold Key.cmp; rw [if_neg (show ¬ x.1.key.lt y.1.key = true by rw [show x.1.key.lt y.1.key = false from h]; simp)]; split <;> omega, he⟩, hb⟩
def From (n : Nat) (l : List TE) : Prop := ∀ x ∈ l, n ≤ x.2
def InsRel (F : Nat → Prop) (R c N a : Nat) (p l q : List TE) (w : World) (iv : Value) (wr : World) : Prop :=
  ∃ (i k : Nat) (s : List TE), 1 ≤ k ∧ (k ≤ l.length ∨ k = 1) ∧ iv = .int .i64 i ∧ i = a + k ∧ s.Perm (l.take k) ∧ Srt s ∧ St F w wr [Own 48 tcells 7 (.slice (some ⟨R, 0, none⟩) N c) (p ++ s ++ l.drop k ++ q)]
def InsRel2 (F : Nat → Prop) (R c N a : Nat) (p s q : List TE) (x : TE) (w : World) (jv : Value) (wr : World) : Prop :=
  ∃ (i k : Nat), k ≤ s.length ∧ jv = .int .i64 i ∧ i = a + k ∧ (∀ y ∈ s.drop k, tless x y = true) ∧ St F w wr [Own 48 tcells 7 (.slice (some ⟨R, 0, none⟩) N c) (p ++ s.take k ++ x :: s.drop k ++ q)]
theorem ins_srt {s : List TE} {x : TE} {k : Nat} (hs : Srt s) (ht : ∀ y ∈ s, y.2 < x.2) (h1 : ∀ y ∈ s.drop k, tless x y = true) (h2 : k = 0 ∨ ∃ y, s[k - 1]? = some y ∧ tless x y = false) : Srt (s.take k ++ x :: s.drop k) := by
  have y1 : ∀ z ∈ s.take k, slt z x := fun z hz => by
    obtain ⟨j, hj, rfl⟩ := List.mem_take_iff_getElem.1 hz
    refine slt_no ?_ (ht _ (List.getElem_mem _))
    rcases h2 with h2 | ⟨y, hy, hxy⟩
    · omega
    · cases hz2 : tless x s[j] with
      | false => rfl
      | true =>
        rw [tless_run' hs (i := j) (j := k - 1) (by omega) (List.getElem?_eq_getElem (by omega)) hy hz2] at hxy; cases hxy
  refine List.pairwise_append.2 ⟨hs.sublist (List.take_sublist _ _), List.pairwise_cons.2 ⟨fun y hy => slt_yes (h1 y hy), hs.sublist (List.drop_sublist _ _)⟩, fun u hu v hv => ?_⟩
  rcases List.mem_cons.1 hv with rfl | hv
  · exact y1 u hu
  · exact slt_trans (y1 u hu) (slt_yes (h1 v hv))
theorem insS_perm {s l : List TE} {x : TE} {k j : Nat} (hs : s.Perm (l.take k)) (hx : l[k]? = some x) : (s.take j ++ x :: s.drop j).Perm (l.take (k + 1)) := by
  rw [List.take_add_one, hx]
  have e : (s.take j ++ x :: s.drop j).Perm (x :: s) := by
    refine List.perm_middle.trans ?_
    rw [List.take_append_drop]
  refine e.trans ?_
  refine (List.Perm.cons x hs).trans ?_
  exact (List.perm_append_singleton x _).symm
set_option maxRecDepth 100000 in
set_option maxHeartbeats 8000000 in
theorem insert_calls (R c N : Nat) (a b : Nat) (p l q : List TE) (w : World) (F : Nat → Prop) (h : (Own 48 tcells 7 (.slice (some ⟨R, 0, none⟩) N c) (p ++ l ++ q)).at_ w F)
    (hN : N = (p ++ l ++ q).length) (ha : a = p.length) (hb : b = a + l.length) (hn : N ≤ 65536) (ht : l.Pairwise (fun x y => x.2 < y.2)) :
    Calls Tryz.prog 214 #[.slice (some ⟨R, 0, none⟩) N c, .int .i64 a, .int .i64 b, .func (.func 123) #[] #[]] w fun e w' => e = .returned (.tuple #[]) ∧ ∃ s : List TE, s.Perm l ∧ Srt s ∧ St F w w' [Own 48 tcells 7 (.slice (some ⟨R, 0, none⟩) N c) (p ++ s ++ q)] := by
  have S := St.one w h
  clear h
  have gN : N = a + l.length + q.length := by rw [hN, ha]; simp; omega
  have g1 : b ≤ N := by omega
  have g0 : a ≤ b := by omega
  have Ha := Lib.hid ha
  have Hb := Lib.hid hb
  have Ht := Lib.hid ht
  have HgN := Lib.hid gN
  clear hN ha ht hb gN
  go_enter Tryz.func214, Tryz.ntmps214
  go_wp2_with first | go_skip | ((with_reducible refine wpList_skip ?hw ?_); (case hw => with_unfolding_all rfl); simp only [Act.put, List.setIfInBounds_toArray, List.set_cons_succ, List.set_cons_zero]) | ((with_reducible refine tot_done ?ht ?_); (case ht => kernel_rfl)) | ((with_reducible apply wps_text S); (case hm => kernel_rfl); (case hB => decide +kernel); clear S; intro wz S) | ((with_reducible apply wps_loada (T := 48) (k := 7) S 0); (case hx | hi => rfl); (case hk => exact Nat.le_of_ble_eq_true rfl); (case hT => decide +kernel)) | ((with_reducible apply wps_loada (T := 48) (k := 7) S 1); (case hx | hi => rfl); (case hk => exact Nat.le_of_ble_eq_true rfl); (case hT => decide +kernel)) | ((with_reducible apply wps_loada (T := 48) (k := 7) S 2); (case hx | hi => rfl); (case hk => exact Nat.le_of_ble_eq_true rfl); (case hT => decide +kernel)) | ((with_reducible apply wps_loada (T := 48) (k := 7) S 3); (case hx | hi => rfl); (case hk => exact Nat.le_of_ble_eq_true rfl); (case hT => decide +kernel))
  go_loopw [8, 9] (fun i _ wr => InsRel F R c N a p l q w i wr) (fun i _ _ => b - (intOf i).toNat)
  case atStart =>
    refine ⟨a + 1, 1, l.take 1, Nat.le_refl _, .inr rfl, by go_num, rfl, List.Perm.refl _, ?_, by rw [show p ++ l.take 1 ++ l.drop 1 ++ q = p ++ l ++ q by rw [List.append_assoc p, List.take_append_drop]]; exact S⟩
    match l with
    | [] => simp
    | x :: l => simp
  case round =>
    clear S
    obtain ⟨i, k, s, hk1, hk2, rfl, hik, hp, hs, S⟩ := hrel
    by_cases hlt : k < l.length
    · have hsl : s.length = k := by rw [hp.length_eq]; simp; omega
      obtain ⟨x, hx⟩ : ∃ x, l[k]? = some x := ⟨_, List.getElem?_eq_getElem hlt⟩
      have hd : l.drop k = x :: l.drop (k + 1) := by obtain ⟨h1, rfl⟩ := List.getElem?_eq_some_iff.1 hx; exact List.drop_eq_getElem_cons h1
      have HT : Hid (∀ y ∈ s, y.2 < x.2) := fun y hy => by
        obtain ⟨j, hj, rfl⟩ := List.mem_take_iff_getElem.1 (hp.mem_iff.1 hy)
        obtain ⟨h1, rfl⟩ := List.getElem?_eq_some_iff.1 hx
        exact List.pairwise_iff_getElem.1 Ht.out j k (by omega) h1 (by omega)
      have HS : Hid (p ++ s ++ l.drop k ++ q = p ++ s.take k ++ x :: s.drop k ++ (l.drop (k + 1) ++ q)) := by
        have e1 : s.take k = s := List.take_of_length_le (by omega)
        have e2 : s.drop k = [] := List.drop_eq_nil_of_le (by omega)
        rw [hd, e1, e2]; simp [Hid]
      rw [HS.out] at S
      have hab : (i : Int) < b := by have := Hb.out; omega
      have hib : i < b := by omega
      have hsb : a + s.length ≤ i := by omega
      have Hp := Lib.hid hp
      have Hs := Lib.hid hs
      have Hx := Lib.hid hx
      have Hsl := Lib.hid hsl
      have hk0 : k ≤ s.length := by omega
      have Hik := Lib.hid hik
      have HD0 : Hid (∀ y ∈ s.drop k, tless x y = true) := by rw [List.drop_eq_nil_of_le (by omega)]; simp [Hid]
      have HpA := Lib.hid Ha.out
      clear hp hs hx hsl hd hlt hik hk2
      go_wp2_with first | go_skip | ((with_reducible refine wpList_skip ?hw ?_); (case hw => with_unfolding_all rfl); simp only [Act.put, List.setIfInBounds_toArray, List.set_cons_succ, List.set_cons_zero]) | ((with_reducible refine tot_done ?ht ?_); (case ht => kernel_rfl)) | ((with_reducible apply wps_text S); (case hm => kernel_rfl); (case hB => decide +kernel); clear S; intro wz S) | ((with_reducible apply wps_loada (T := 48) (k := 7) S 0); (case hx | hi => rfl); (case hk => exact Nat.le_of_ble_eq_true rfl); (case hT => decide +kernel)) | ((with_reducible apply wps_loada (T := 48) (k := 7) S 1); (case hx | hi => rfl); (case hk => exact Nat.le_of_ble_eq_true rfl); (case hT => decide +kernel)) | ((with_reducible apply wps_loada (T := 48) (k := 7) S 2); (case hx | hi => rfl); (case hk => exact Nat.le_of_ble_eq_true rfl); (case hT => decide +kernel)) | ((with_reducible apply wps_loada (T := 48) (k := 7) S 3); (case hx | hi => rfl); (case hk => exact Nat.le_of_ble_eq_true rfl); (case hT => decide +kernel))
      go_loopw [9] (fun j wr => InsRel2 F R c N a p s (l.drop (k + 1) ++ q) x w j wr) (fun j _ => (intOf j).toNat)
      case atStart => exact ⟨i, k, hk0, rfl, Hik.out, HD0.out, S⟩
      case round =>
        clear S HD0
        obtain ⟨o, j, hj, rfl, hoj, hD, S⟩ := hrel
        by_cases hj0 : j = 0
        · have hoa : ¬ (a : Int) < o := by omega
          have HR := Lib.hid (ins_srt (x := x) (k := j) Hs.out HT.out hD (.inl hj0))
          have HP := Lib.hid (insS_perm (j := j) Hp.out Hx.out)
          have Hoj := Lib.hid hoj
          have HD := Lib.hid hD
          have Hj0 := Lib.hid hj0
          clear hoj hD hj0
          go_wp2_with first | go_skip | ((with_reducible refine wpList_skip ?hw ?_); (case hw => with_unfolding_all rfl); simp only [Act.put, List.setIfInBounds_toArray, List.set_cons_succ, List.set_cons_zero]) | ((with_reducible refine tot_done ?ht ?_); (case ht => kernel_rfl)) | ((with_reducible apply wps_text S); (case hm => kernel_rfl); (case hB => decide +kernel); clear S; intro wz S) | ((with_reducible apply wps_loada (T := 48) (k := 7) S 0); (case hx | hi => rfl); (case hk => exact Nat.le_of_ble_eq_true rfl); (case hT => decide +kernel)) | ((with_reducible apply wps_loada (T := 48) (k := 7) S 1); (case hx | hi => rfl); (case hk => exact Nat.le_of_ble_eq_true rfl); (case hT => decide +kernel)) | ((with_reducible apply wps_loada (T := 48) (k := 7) S 2); (case hx | hi => rfl); (case hk => exact Nat.le_of_ble_eq_true rfl); (case hT => decide +kernel)) | ((with_reducible apply wps_loada (T := 48) (k := 7) S 3); (case hx | hi => rfl); (case hk => exact Nat.le_of_ble_eq_true rfl); (case hT => decide +kernel))
          go_roundw
          case rel => exact ⟨i + 1, k + 1, s.take j ++ x :: s.drop j, by omega, .inl (by have := Hb.out; have := Hik.out; omega), by go_num, by have := Hik.out; omega, HP.out, HR.out, by simpa using S⟩
          case measure => first | (simp [intOf]; done) | (simp [intOf]; omega)
        · obtain ⟨j, rfl⟩ : ∃ n, j = n + 1 := ⟨j - 1, by omega⟩
          obtain ⟨o, rfl⟩ : ∃ n, o = n + 1 := ⟨o - 1, by omega⟩
          obtain ⟨y, hy⟩ : ∃ y, s[j]? = some y := ⟨_, List.getElem?_eq_getElem (by omega)⟩
          have hoa : (a : Int) < o + 1 := by omega
          have hoN : o + 1 < N := by omega
          have hsd : s.drop j = y :: s.drop (j + 1) := by obtain ⟨h1, rfl⟩ := List.getElem?_eq_some_iff.1 hy; exact List.drop_eq_getElem_cons h1
          have hst : s.take (j + 1) = s.take j ++ [y] := by rw [List.take_add_one, hy]; rfl
          have ljs : (s.take j).length = j := by simp; omega
          have HX : Hid ((p ++ s.take (j + 1) ++ x :: s.drop (j + 1) ++ (l.drop (k + 1) ++ q))[o + 1]? = some x) := by
            have := get_mid (p := p ++ s.take (j + 1)) (q := s.drop (j + 1) ++ (l.drop (k + 1) ++ q)) (x := x) (k := o + 1) (by rw [hst]; simp [ljs]; have := HpA.out; omega)
            simpa [Hid] using this
          have HY : Hid ((p ++ s.take (j + 1) ++ x :: s.drop (j + 1) ++ (l.drop (k + 1) ++ q))[o]? = some y) := by
            have := get_mid (p := p ++ s.take j) (q := x :: s.drop (j + 1) ++ (l.drop (k + 1) ++ q)) (x := y) (k := o) (by simp [ljs]; have := HpA.out; omega)
            rw [hst]; simpa [Hid] using this
          have HY2 : Hid (((p ++ s.take (j + 1) ++ x :: s.drop (j + 1) ++ (l.drop (k + 1) ++ q)).set (o + 1) y)[o]? = some y) := by
            rw [List.getElem?_set_ne (by omega)]; exact HY.out
          have HE : Hid (((p ++ s.take (j + 1) ++ x :: s.drop (j + 1) ++ (l.drop (k + 1) ++ q)).set (o + 1) y).set o x = p ++ s.take j ++ x :: s.drop j ++ (l.drop (k + 1) ++ q)) := by
            have e1 := set_mid (p := p ++ s.take (j + 1)) (q := s.drop (j + 1) ++ (l.drop (k + 1) ++ q)) (x := x) (y := y) (k := o + 1) (by rw [hst]; simp [ljs]; have := HpA.out; omega)
            have e2 := set_mid (p := p ++ s.take j) (q := y :: s.drop (j + 1) ++ (l.drop (k + 1) ++ q)) (x := y) (y := x) (k := o) (by simp [ljs]; have := HpA.out; omega)
            rw [hst] at e1 ⊢
            rw [hsd]
            simp only [List.append_assoc, List.cons_append, List.nil_append] at *
            rw [e1, e2]; rfl
          clear hst ljs
          cases hc : tless x y with
          | true =>
            have HC := Lib.hid (cmpEv_yes hc)
            have HD2 : Hid (∀ z ∈ s.drop j, tless x z = true) := by
              rw [hsd]; intro z hz
              rcases List.mem_cons.1 hz with rfl | hz
              · exact hc
              · exact hD z hz
            generalize p ++ s.take (j + 1) ++ x :: s.drop (j + 1) ++ (l.drop (k + 1) ++ q) = cur at *
            clear hc hsd
            have Hy := Lib.hid hy
            have Hoj := Lib.hid hoj
            have HD := Lib.hid hD
            clear hy hoj hD
            go_wp2_with first | go_skip | ((with_reducible refine wpList_skip ?hw ?_); (case hw => with_unfolding_all rfl); simp only [Act.put, List.setIfInBounds_toArray, List.set_cons_succ, List.set_cons_zero]) | ((with_reducible apply wps_loada_own tlen S 0 (hj := HX.out) (q := 0) (vs := [.int .i64 x.1.key.at_, .int .i64 x.1.key.src, .int .i64 x.1.key.sent, .int .i64 x.1.key.no, .int .i64 x.1.dst, .int .i64 x.1.kind, .int .i64 x.1.data]) (m := 7)); (case hx | hi => rfl); (case hn => omega); (case hm | hv => rfl); (case hT => decide +kernel)) | ((with_reducible apply wps_loada_own tlen S 0 (hj := HY.out) (q := 0) (vs := [.int .i64 y.1.key.at_, .int .i64 y.1.key.src, .int .i64 y.1.key.sent, .int .i64 y.1.key.no, .int .i64 y.1.dst, .int .i64 y.1.kind, .int .i64 y.1.data]) (m := 7)); (case hx | hi => rfl); (case hn => omega); (case hm | hv => rfl); (case hT => decide +kernel)) | (go_at_call 123; refine Calls.mono (HC.out _) ?_; rintro e wz ⟨rfl, hE⟩; replace S := S.ext (Keep.of_below hE); clear hE) | ((with_reducible apply wps_store_owna tlen S 0 (hj := HX.out) (e' := y) (q := 0) (vs := [.int .i64 y.1.key.at_, .int .i64 y.1.key.src, .int .i64 y.1.key.sent, .int .i64 y.1.key.no, .int .i64 y.1.dst, .int .i64 y.1.kind, .int .i64 y.1.data]) (m := 7)); (case hx => rfl); (case hn => omega); (case hi | hy | hm | h1 | he => rfl); (case hq => exact Nat.le_of_ble_eq_true rfl); (case hT => decide +kernel); clear S; intro wz S; simp only [List.set_cons_zero] at S) | ((with_reducible apply wps_store_owna tlen S 0 (hj := HY2.out) (e' := x) (q := 0) (vs := [.int .i64 x.1.key.at_, .int .i64 x.1.key.src, .int .i64 x.1.key.sent, .int .i64 x.1.key.no, .int .i64 x.1.dst, .int .i64 x.1.kind, .int .i64 x.1.data]) (m := 7)); (case hx => rfl); (case hn => omega); (case hi | hy | hm | h1 | he => rfl); (case hq => exact Nat.le_of_ble_eq_true rfl); (case hT => decide +kernel); clear S; intro wz S; simp only [List.set_cons_zero] at S) | ((with_reducible refine tot_done ?ht ?_); (case ht => kernel_rfl)) | ((with_reducible apply wps_text S); (case hm => kernel_rfl); (case hB => decide +kernel); clear S; intro wz S) | ((with_reducible apply wps_loada (T := 48) (k := 7) S 0); (case hx | hi => rfl); (case hk => exact Nat.le_of_ble_eq_true rfl); (case hT => decide +kernel)) | ((with_reducible apply wps_loada (T := 48) (k := 7) S 1); (case hx | hi => rfl); (case hk => exact Nat.le_of_ble_eq_true rfl); (case hT => decide +kernel)) | ((with_reducible apply wps_loada (T := 48) (k := 7) S 2); (case hx | hi => rfl); (case hk => exact Nat.le_of_ble_eq_true rfl); (case hT => decide +kernel)) | ((with_reducible apply wps_loada (T := 48) (k := 7) S 3); (case hx | hi => rfl); (case hk => exact Nat.le_of_ble_eq_true rfl); (case hT => decide +kernel))
            rw [HE.out] at S
            go_roundw
            case rel => exact ⟨o, j, by omega, by go_num, by have := Hoj.out; omega, HD2.out, S⟩
            case measure => first | (simp [intOf]; done) | (simp [intOf]; omega)
          | false =>
            have HC := Lib.hid (cmpEv_no hc)
            have HR := Lib.hid (ins_srt (x := x) (k := j + 1) Hs.out HT.out hD (.inr ⟨y, hy, hc⟩))
            have HP := Lib.hid (insS_perm (j := j + 1) Hp.out Hx.out)
            have HS2 : Hid (p ++ s.take (j + 1) ++ x :: s.drop (j + 1) ++ (l.drop (k + 1) ++ q) = p ++ (s.take (j + 1) ++ x :: s.drop (j + 1)) ++ l.drop (k + 1) ++ q) := by simp [Hid]
            generalize p ++ s.take (j + 1) ++ x :: s.drop (j + 1) ++ (l.drop (k + 1) ++ q) = cur at *
            clear hc hsd
            have Hy := Lib.hid hy
            have Hoj := Lib.hid hoj
            have HD := Lib.hid hD
            clear hy hoj hD
            go_wp2_with first | go_skip | ((with_reducible refine wpList_skip ?hw ?_); (case hw => with_unfolding_all rfl); simp only [Act.put, List.setIfInBounds_toArray, List.set_cons_succ, List.set_cons_zero]) | ((with_reducible apply wps_loada_own tlen S 0 (hj := HX.out) (q := 0) (vs := [.int .i64 x.1.key.at_, .int .i64 x.1.key.src, .int .i64 x.1.key.sent, .int .i64 x.1.key.no, .int .i64 x.1.dst, .int .i64 x.1.kind, .int .i64 x.1.data]) (m := 7)); (case hx | hi => rfl); (case hn => omega); (case hm | hv => rfl); (case hT => decide +kernel)) | ((with_reducible apply wps_loada_own tlen S 0 (hj := HY.out) (q := 0) (vs := [.int .i64 y.1.key.at_, .int .i64 y.1.key.src, .int .i64 y.1.key.sent, .int .i64 y.1.key.no, .int .i64 y.1.dst, .int .i64 y.1.kind, .int .i64 y.1.data]) (m := 7)); (case hx | hi => rfl); (case hn => omega); (case hm | hv => rfl); (case hT => decide +kernel)) | (go_at_call 123; refine Calls.mono (HC.out _) ?_; rintro e wz ⟨⟨cv, hcv, rfl⟩, hE⟩; have hcv2 : ¬ cv < 0 := (by omega); replace S := S.ext (Keep.of_below hE); clear hE) | ((with_reducible refine tot_done ?ht ?_); (case ht => kernel_rfl)) | ((with_reducible apply wps_text S); (case hm => kernel_rfl); (case hB => decide +kernel); clear S; intro wz S) | ((with_reducible apply wps_loada (T := 48) (k := 7) S 0); (case hx | hi => rfl); (case hk => exact Nat.le_of_ble_eq_true rfl); (case hT => decide +kernel)) | ((with_reducible apply wps_loada (T := 48) (k := 7) S 1); (case hx | hi => rfl); (case hk => exact Nat.le_of_ble_eq_true rfl); (case hT => decide +kernel)) | ((with_reducible apply wps_loada (T := 48) (k := 7) S 2); (case hx | hi => rfl); (case hk => exact Nat.le_of_ble_eq_true rfl); (case hT => decide +kernel)) | ((with_reducible apply wps_loada (T := 48) (k := 7) S 3); (case hx | hi => rfl); (case hk => exact Nat.le_of_ble_eq_true rfl); (case hT => decide +kernel))
            rw [HS2.out] at S
            go_roundw
            case rel => exact ⟨i + 1, k + 1, s.take (j + 1) ++ x :: s.drop (j + 1), by omega, .inl (by have := Hb.out; have := Hik.out; omega), by go_num, by have := Hik.out; omega, HP.out, HR.out, S⟩
            case measure => first | (simp [intOf]; done) | (simp [intOf]; omega)
    · have hge : ¬ (i : Int) < b := by have := Hb.out; omega
      have e1 : l.take k = l := List.take_of_length_le (by omega)
      have e2 : l.drop k = [] := List.drop_eq_nil_of_le (by omega)
      rw [e2] at S
      rw [e1] at hp
      clear hik e1 e2
      have Hp := Lib.hid hp
      have Hs := Lib.hid hs
      clear hp hs
      go_wp2_with first | go_skip | ((with_reducible refine wpList_skip ?hw ?_); (case hw => with_unfolding_all rfl); simp only [Act.put, List.setIfInBounds_toArray, List.set_cons_succ, List.set_cons_zero]) | ((with_reducible refine tot_done ?ht ?_); (case ht => kernel_rfl)) | ((with_reducible apply wps_text S); (case hm => kernel_rfl); (case hB => decide +kernel); clear S; intro wz S) | ((with_reducible apply wps_loada (T := 48) (k := 7) S 0); (case hx | hi => rfl); (case hk => exact Nat.le_of_ble_eq_true rfl); (case hT => decide +kernel)) | ((with_reducible apply wps_loada (T := 48) (k := 7) S 1); (case hx | hi => rfl); (case hk => exact Nat.le_of_ble_eq_true rfl); (case hT => decide +kernel)) | ((with_reducible apply wps_loada (T := 48) (k := 7) S 2); (case hx | hi => rfl); (case hk => exact Nat.le_of_ble_eq_true rfl); (case hT => decide +kernel)) | ((with_reducible apply wps_loada (T := 48) (k := 7) S 3); (case hx | hi => rfl); (case hk => exact Nat.le_of_ble_eq_true rfl); (case hT => decide +kernel))
      go_end0
      exact ⟨rfl, s, Hp.out, Hs.out, by simpa using S⟩
end Go.Proofs.YtmpfbkfemlhekaaGreatDoor
/- Stable sorting, plain: runs that are merged, and what the sorted list is. -/
namespace Go.Proofs.YtmpfbkfemlhekaaGreatDoor

def InT (a : Nat) (l : List TE) : Prop := ∀ x ∈ l, a ≤ x.2 ∧ x.2 < a + l.length
inductive Runs (k : Nat) : Nat → List TE → Prop
  | last {a : Nat} {l : List TE} : l.length ≤ k → Srt l → InT a l → Runs k a l
  | cons {a : Nat} {l r : List TE} : l.length = k → Srt l → InT a l → Runs k (a + k) r → Runs k a (l ++ r)
structure Done (k a : Nat) (d : List TE) : Prop where
  len : d.length = a
  go : ∀ r, Runs k a r → Runs k 0 (d ++ r)
theorem Done.start (k : Nat) : Done k 0 [] := ⟨rfl, fun _ h => h⟩
theorem Done.step {k a : Nat} {d l : List TE} (h : Done k a d) (hl : l.length = k) (hs : Srt l) (hi : InT a l) : Done k (a + k) (d ++ l) :=
  ⟨by rw [List.length_append, h.len, hl], fun r hr => by rw [List.append_assoc]; exact h.go _ (.cons hl hs hi hr)⟩
theorem InT.perm {a : Nat} {l m : List TE} (h : InT a l) (hp : m.Perm l) : InT a m := fun x hx => by
  have := h x (hp.mem_iff.1 hx)
  rw [hp.length_eq]; exact this
theorem InT.two {a k : Nat} {l m : List TE} (h1 : InT a l) (h2 : InT (a + k) m) (hl : l.length = k) : InT a (l ++ m) ∧ ∀ x ∈ l, ∀ y ∈ m, x.2 < y.2 := by
  refine ⟨fun x hx => ?_, fun x hx y hy => ?_⟩
  · rw [List.length_append]
    rcases List.mem_append.1 hx with h | h
    · have := h1 x h; omega
    · have := h2 x h; omega
  · have := h1 x hx; have := h2 y hy; omega
theorem runs_two {k a : Nat} {r : List TE} (h : Runs k a r) (hk : 0 < k) (hl : 2 * k ≤ r.length) :
    ∃ l1 l2 r2 : List TE, r = l1 ++ l2 ++ r2 ∧ l1.length = k ∧ l2.length = k ∧ Srt l1 ∧ Srt l2 ∧ InT a l1 ∧ InT (a + k) l2 ∧ Runs k (a + 2 * k) r2 := by
  cases h with
  | last h1 h2 h3 => omega
  | @cons _ l r h1 h2 h3 h4 =>
    cases h4 with
    | last g1 g2 g3 =>
      have : r.length = k := by simp at hl; omega
      exact ⟨l, r, [], by simp, h1, this, h2, g2, h3, g3, .last (by simp) List.Pairwise.nil (fun x hx => by cases hx)⟩
    | @cons _ l' r' g1 g2 g3 g4 => exact ⟨l, l', r', by simp, h1, g1, h2, g2, h3, g3, by rw [show a + 2 * k = a + k + k by omega]; exact g4⟩
theorem runs_one {k a : Nat} {r : List TE} (h : Runs k a r) (hl : r.length < 2 * k) (hl2 : k < r.length) :
    ∃ l1 l2 : List TE, r = l1 ++ l2 ∧ l1.length = k ∧ Srt l1 ∧ Srt l2 ∧ InT a l1 ∧ InT (a + k) l2 := by
  cases h with
  | last h1 h2 h3 => omega
  | @cons _ l r h1 h2 h3 h4 =>
    cases h4 with
    | last g1 g2 g3 => exact ⟨l, r, rfl, h1, h2, g2, h3, g3⟩
    | @cons _ l' r' g1 g2 g3 g4 =>
      have : r' = [] := List.eq_nil_of_length_eq_zero (by simp at hl; omega)
      subst this
      exact ⟨l, l' ++ [], rfl, h1, h2, by rw [List.append_nil]; exact g2, h3, by rw [List.append_nil]; exact g3⟩
theorem runs_srt {k a : Nat} {r : List TE} (h : Runs k a r) (hl : r.length ≤ k) : Srt r ∧ InT a r := by
  cases h with
  | last h1 h2 h3 => exact ⟨h2, h3⟩
  | @cons _ l r h1 h2 h3 h4 =>
    have : r = [] := List.eq_nil_of_length_eq_zero (by simp at hl; omega)
    subst this
    rw [List.append_nil]; exact ⟨h2, h3⟩
def tag (l : List Event) : List TE := l.zipIdx
theorem tag_len (l : List Event) : (tag l).length = l.length := by simp [tag]
theorem tag_get (l : List Event) (i : Nat) : (tag l)[i]? = l[i]?.map fun x => (x, i) := by simp [tag, List.getElem?_zipIdx]
theorem tag_map (l : List Event) : (tag l).map (·.1) = l := by
  apply List.ext_getElem?
  intro i
  rw [List.getElem?_map, tag_get]
  cases l[i]? <;> rfl
theorem tag_idx {l : List Event} {i : Nat} {x : TE} (h : (tag l)[i]? = some x) : x.2 = i := by
  rw [tag_get] at h
  obtain ⟨y, _, rfl⟩ := Option.map_eq_some_iff.1 h
  rfl
theorem tag_rise (l : List Event) : (tag l).Pairwise (fun x y => x.2 < y.2) := by
  rw [List.pairwise_iff_getElem]
  intro i j hi hj hij
  rw [tag_idx (List.getElem?_eq_getElem hi), tag_idx (List.getElem?_eq_getElem hj)]; exact hij
theorem tag_in (l : List Event) (a n : Nat) (h : a + n ≤ l.length) : InT a (((tag l).drop a).take n) := fun x hx => by
  obtain ⟨k, hk, rfl⟩ := List.mem_take_iff_getElem.1 hx
  have hk2 : k < ((tag l).drop a).length := by omega
  have e := tag_idx (l := l) (i := a + k) (x := ((tag l).drop a)[k]) (by rw [← List.getElem?_drop]; exact List.getElem?_eq_getElem hk2)
  rw [e]
  simp only [List.length_take, List.length_drop, tag_len]
  rw [List.length_drop, tag_len] at hk2
  omega
def insE (out : List Event) (x : Event) : List Event := out.takeWhile (fun y => !x.key.lt y.key) ++ x :: out.dropWhile (fun y => !x.key.lt y.key)
def sortE (l : List Event) : List Event := l.foldl insE []
def insT (out : List TE) (x : TE) : List TE := out.takeWhile (fun y => !tless x y) ++ x :: out.dropWhile (fun y => !tless x y)
theorem insT_map (out : List TE) (x : TE) : (insT out x).map (·.1) = insE (out.map (·.1)) x.1 := by
  simp only [insT, insE, List.map_append, List.map_cons, List.takeWhile_map, List.dropWhile_map]
  rfl
theorem tw_mem {α : Type} {p : α → Bool} : ∀ {l : List α} {z : α}, z ∈ l.takeWhile p → p z = true
  | [], z, h => by simp at h
  | a :: l, z, h => by
    rw [List.takeWhile_cons] at h
    split at h
    · rename_i ha
      rcases List.mem_cons.1 h with rfl | h
      · exact ha
      · exact tw_mem h
    · simp at h
theorem insT_perm (out : List TE) (x : TE) : (insT out x).Perm (x :: out) := by
  refine List.perm_middle.trans ?_
  rw [List.takeWhile_append_dropWhile]
theorem insT_srt {out : List TE} {x : TE} (hs : Srt out) (ht : ∀ y ∈ out, y.2 < x.2) : Srt (insT out x) := by
  have y1 : ∀ z ∈ out.takeWhile (fun y => !tless x y), slt z x := fun z hz => by
    have h1 := tw_mem hz
    exact slt_no (by simpa using h1) (ht z ((List.takeWhile_sublist _).subset hz))
  have hd : Srt (out.dropWhile (fun y => !tless x y)) := hs.sublist (List.dropWhile_sublist _)
  have y2 : ∀ z ∈ out.dropWhile (fun y => !tless x y), slt x z := by
    cases hq : out.dropWhile (fun y => !tless x y) with
    | nil => intro z hz; cases hz
    | cons y r =>
      have hy : tless x y = true := by
        have := List.head?_dropWhile_not (p := fun y => !tless x y) (l := out)
        rw [hq] at this; simpa using this
      rw [hq] at hd
      intro z hz
      rcases List.mem_cons.1 hz with rfl | hz
      · exact slt_yes hy
      · exact slt_trans (slt_yes hy) ((List.pairwise_cons.1 hd).1 z hz)
  refine List.pairwise_append.2 ⟨hs.sublist (List.takeWhile_sublist _), List.pairwise_cons.2 ⟨y2, hd⟩, fun u hu v hv => ?_⟩
  rcases List.mem_cons.1 hv with rfl | hv
  · exact y1 u hu
  · exact slt_trans (y1 u hu) (y2 v hv)
theorem foldT : ∀ (l out : List TE), Srt out → (∀ x ∈ out, ∀ y ∈ l, x.2 < y.2) → l.Pairwise (fun x y => x.2 < y.2) → Srt (l.foldl insT out) ∧ (l.foldl insT out).Perm (out ++ l) ∧ (l.foldl insT out).map (·.1) = (l.map (·.1)).foldl insE (out.map (·.1))
  | [], out, hs, _, _ => by simpa using hs
  | x :: l, out, hs, ht, hl => by
    have hl' := List.pairwise_cons.1 hl
    have hp := insT_perm out x
    have h1 := insT_srt (x := x) hs (fun y hy => ht y hy x (by simp))
    obtain ⟨g1, g2, g3⟩ := foldT l (insT out x) h1 (fun y hy z hz => by
      rcases List.mem_cons.1 (hp.mem_iff.1 hy) with rfl | hy
      · exact hl'.1 z hz
      · exact ht y hy z (by simp [hz])) hl'.2
    refine ⟨g1, ?_, by rw [List.foldl_cons, g3, insT_map]; rfl⟩
    rw [List.foldl_cons]
    refine g2.trans ((hp.append_right l).trans ?_)
    exact (List.perm_middle (l₁ := out)).symm
theorem sortE_of {l : List Event} {ys : List TE} (hp : ys.Perm (tag l)) (hs : Srt ys) : ys.map (·.1) = sortE l := by
  obtain ⟨g1, g2, g3⟩ := foldT (tag l) [] List.Pairwise.nil (fun x hx => by cases hx) (tag_rise l)
  rw [srt_uniq hs g1 (hp.trans (by simpa using g2.symm)), g3, tag_map]; rfl
theorem sortE_ex (l : List Event) : ∃ ys : List TE, ys.Perm (tag l) ∧ Srt ys ∧ ys.map (·.1) = sortE l := by
  obtain ⟨g1, g2, g3⟩ := foldT (tag l) [] List.Pairwise.nil (fun x hx => by cases hx) (tag_rise l)
  exact ⟨_, by simpa using g2, g1, by rw [g3, tag_map]; rfl⟩
theorem sortE_perm (l : List Event) : (sortE l).Perm l := by
  obtain ⟨ys, h1, _, h3⟩ := sortE_ex l
  rw [← h3]
  have := h1.map (·.1)
  rwa [tag_map] at this
theorem sortE_len (l : List Event) : (sortE l).length = l.length := (sortE_perm l).length_eq
end Go.Proofs.YtmpfbkfemlhekaaGreatDoor
/- The walks of model.Check and New. -/
namespace Go.Proofs.YtmpfbkfemlhekaaGreatDoor
open Go Go.RowKit Reg Mem

set_option maxRecDepth 100000 in
theorem elem_In : Elem Tryz.prog 153 162 5 40 := ⟨_, .agg #[.int .i64 0, .int .i64 0, .int .i64 0, .int .i64 0, .int .i64 0], Tryz.underlying153, rfl, by kernel_rfl, by kernel_rfl, by kernel_rfl, by kernel_rfl, by omega⟩
set_option maxRecDepth 100000 in
theorem elem_Pl : Elem Tryz.prog 23 155 5 40 := ⟨_, .agg #[.int .i64 0, .int .i64 0, .int .i64 0, .int .i64 0, .int .i64 0], Tryz.underlying23, rfl, by kernel_rfl, by kernel_rfl, by kernel_rfl, by kernel_rfl, by omega⟩
set_option maxRecDepth 100000 in
theorem elem_Sta : Elem Tryz.prog 24 103 4 32 := ⟨_, .agg #[.int .i64 0, .int .i64 0, .int .i64 0, .int .i64 0], Tryz.underlying24, rfl, by kernel_rfl, by kernel_rfl, by kernel_rfl, by kernel_rfl, by omega⟩
set_option maxRecDepth 100000 in
theorem clone_In {ad : Option Addr} {n c : Nat} {xs : List _} (w : World) (F : Nat → Prop) (h : (Sl true Instr.cells 5 (.slice ad n c) xs).at_ w F) (hn : xs.length ≤ 4294967296) :
    Calls Tryz.prog 67 #[.slice ad n c] w fun e w' => ∃ ad' c', e = .returned (.slice ad' xs.length c') ∧ (0 < xs.length → ∃ R, ad' = some ⟨R, 0, none⟩) ∧ St (fun _ => False) w w' [Own 162 Instr.cells 5 (.slice ad' xs.length c') xs] := by
  have S : St (fun _ => False) w w [Sl true Instr.cells 5 (.slice ad n c) xs] := (St.init _ w).share rfl rfl h
  have hq : ∀ (w : World) (a : Option Addr) (n c n' c' : Nat), (binOp .eql 153 (.slice a n c) (.slice none n' c')).run Tryz.prog w = .ok (.bool a.isNone) w := fun w a n c n' c' => Lib.run_eql_slice_nil w _ _ a n c n' c' Tryz.underlying153
  cases ad with
  | none =>
    have hx : xs = [] := by
      obtain ⟨a, c', e, h1, h2, _⟩ := h.1
      simp only [Value.slice.injEq] at e
      obtain ⟨rfl, rfl, rfl⟩ := e
      exact List.eq_nil_of_length_eq_zero (by have := h2 rfl; omega)
    subst hx
    go_enter Tryz.func67, Tryz.ntmps67
    go_wp2_with first | ((with_reducible refine tot_done ?ht ?_); (case ht => kernel_rfl))
    go_ret
    exact ⟨_, _, rfl, fun h => absurd h (by simp), ((S.nil 162 Instr.cells 5).pick [0] rfl)⟩
  | some a0 =>
    go_enter Tryz.func67, Tryz.ntmps67
    go_wp2_with first | ((with_reducible apply wps_build0 (T := 153) (E := 162) Instr.cells 5 S); (case hr => intro w; kernel_rfl); clear S; intro bz wz S) | ((with_reducible apply wps_appends elem_In incells inone (by decide) S 0 (j := 1)); (case hx | hy | hi | hj => rfl); (case hl => first | omega | (simp; omega)); clear S; intro az nz cz wz hnz S; simp only [List.set_cons_zero] at S) | ((with_reducible refine tot_done ?ht ?_); (case ht => kernel_rfl))
    go_ret
    obtain rfl : nz = xs.length := by have := hnz.out; simp at this; omega
    simp only [List.nil_append] at S
    refine ⟨_, _, rfl, fun h0 => ?_, S.pick [0] rfl⟩
    obtain ⟨F, hF⟩ := S.get (i := 0) rfl
    rcases hF.1.2 with ⟨_, e⟩ | ⟨g, cap, cur, e, _⟩
    · omega
    · simp only [Value.slice.injEq] at e; exact ⟨g, e.1⟩
set_option maxRecDepth 100000 in
theorem clone_Pl {ad : Option Addr} {n c : Nat} {xs : List _} (w : World) (F : Nat → Prop) (h : (Sl true Place.cells 5 (.slice ad n c) xs).at_ w F) (hn : xs.length ≤ 4294967296) :
    Calls Tryz.prog 68 #[.slice ad n c] w fun e w' => ∃ ad' c', e = .returned (.slice ad' xs.length c') ∧ (0 < xs.length → ∃ R, ad' = some ⟨R, 0, none⟩) ∧ St (fun _ => False) w w' [Own 155 Place.cells 5 (.slice ad' xs.length c') xs] := by
  have S : St (fun _ => False) w w [Sl true Place.cells 5 (.slice ad n c) xs] := (St.init _ w).share rfl rfl h
  have hq : ∀ (w : World) (a : Option Addr) (n c n' c' : Nat), (binOp .eql 23 (.slice a n c) (.slice none n' c')).run Tryz.prog w = .ok (.bool a.isNone) w := fun w a n c n' c' => Lib.run_eql_slice_nil w _ _ a n c n' c' Tryz.underlying23
  cases ad with
  | none =>
    have hx : xs = [] := by
      obtain ⟨a, c', e, h1, h2, _⟩ := h.1
      simp only [Value.slice.injEq] at e
      obtain ⟨rfl, rfl, rfl⟩ := e
      exact List.eq_nil_of_length_eq_zero (by have := h2 rfl; omega)
    subst hx
    go_enter Tryz.func68, Tryz.ntmps68
    go_wp2_with first | ((with_reducible refine tot_done ?ht ?_); (case ht => kernel_rfl))
    go_ret
    exact ⟨_, _, rfl, fun h => absurd h (by simp), ((S.nil 155 Place.cells 5).pick [0] rfl)⟩
  | some a0 =>
    go_enter Tryz.func68, Tryz.ntmps68
    go_wp2_with first | ((with_reducible apply wps_build0 (T := 23) (E := 155) Place.cells 5 S); (case hr => intro w; kernel_rfl); clear S; intro bz wz S) | ((with_reducible apply wps_appends elem_Pl plcells plone (by decide) S 0 (j := 1)); (case hx | hy | hi | hj => rfl); (case hl => first | omega | (simp; omega)); clear S; intro az nz cz wz hnz S; simp only [List.set_cons_zero] at S) | ((with_reducible refine tot_done ?ht ?_); (case ht => kernel_rfl))
    go_ret
    obtain rfl : nz = xs.length := by have := hnz.out; simp at this; omega
    simp only [List.nil_append] at S
    refine ⟨_, _, rfl, fun h0 => ?_, S.pick [0] rfl⟩
    obtain ⟨F, hF⟩ := S.get (i := 0) rfl
    rcases hF.1.2 with ⟨_, e⟩ | ⟨g, cap, cur, e, _⟩
    · omega
    · simp only [Value.slice.injEq] at e; exact ⟨g, e.1⟩
set_option maxRecDepth 100000 in
theorem clone_Sta {ad : Option Addr} {n c : Nat} {xs : List _} (w : World) (F : Nat → Prop) (h : (Sl true Start.cells 4 (.slice ad n c) xs).at_ w F) (hn : xs.length ≤ 4294967296) :
    Calls Tryz.prog 69 #[.slice ad n c] w fun e w' => ∃ ad' c', e = .returned (.slice ad' xs.length c') ∧ (0 < xs.length → ∃ R, ad' = some ⟨R, 0, none⟩) ∧ St (fun _ => False) w w' [Own 103 Start.cells 4 (.slice ad' xs.length c') xs] := by
  have S : St (fun _ => False) w w [Sl true Start.cells 4 (.slice ad n c) xs] := (St.init _ w).share rfl rfl h
  have hq : ∀ (w : World) (a : Option Addr) (n c n' c' : Nat), (binOp .eql 24 (.slice a n c) (.slice none n' c')).run Tryz.prog w = .ok (.bool a.isNone) w := fun w a n c n' c' => Lib.run_eql_slice_nil w _ _ a n c n' c' Tryz.underlying24
  cases ad with
  | none =>
    have hx : xs = [] := by
      obtain ⟨a, c', e, h1, h2, _⟩ := h.1
      simp only [Value.slice.injEq] at e
      obtain ⟨rfl, rfl, rfl⟩ := e
      exact List.eq_nil_of_length_eq_zero (by have := h2 rfl; omega)
    subst hx
    go_enter Tryz.func69, Tryz.ntmps69
    go_wp2_with first | ((with_reducible refine tot_done ?ht ?_); (case ht => kernel_rfl))
    go_ret
    exact ⟨_, _, rfl, fun h => absurd h (by simp), ((S.nil 103 Start.cells 4).pick [0] rfl)⟩
  | some a0 =>
    go_enter Tryz.func69, Tryz.ntmps69
    go_wp2_with first | ((with_reducible apply wps_build0 (T := 24) (E := 103) Start.cells 4 S); (case hr => intro w; kernel_rfl); clear S; intro bz wz S) | ((with_reducible apply wps_appends elem_Sta stcells stone (by decide) S 0 (j := 1)); (case hx | hy | hi | hj => rfl); (case hl => first | omega | (simp; omega)); clear S; intro az nz cz wz hnz S; simp only [List.set_cons_zero] at S) | ((with_reducible refine tot_done ?ht ?_); (case ht => kernel_rfl))
    go_ret
    obtain rfl : nz = xs.length := by have := hnz.out; simp at this; omega
    simp only [List.nil_append] at S
    refine ⟨_, _, rfl, fun h0 => ?_, S.pick [0] rfl⟩
    obtain ⟨F, hF⟩ := S.get (i := 0) rfl
    rcases hF.1.2 with ⟨_, e⟩ | ⟨g, cap, cur, e, _⟩
    · omega
    · simp only [Value.slice.injEq] at e; exact ⟨g, e.1⟩
set_option maxRecDepth 100000 in
theorem zero_Hdr : zeroIs Tryz.prog 153 1 (vcell (.slice none 0 0)) := ⟨_, .slice none 0 0, rfl, by kernel_rfl, by kernel_rfl, rfl, by decide⟩
theorem within_or (n a b : Int) : withinE n a b = 0 ∨ withinE n a b = 10 := by unfold withinE; split <;> simp
theorem within_iff {n a b : Int} : withinE n a b = 0 ↔ a ≤ n ∧ n ≤ b := by
  unfold withinE; split <;> simp <;> omega
theorem sizes_eq (c : Cfg) : firstE [withinE c.lps.length 1 32, withinE c.programs.length 1 32, withinE c.fin 1 1073741824, withinE c.fuel 1 1024, withinE c.fan 0 8] = sizesE c := by
  obtain ⟨l, hl⟩ : ∃ l, [withinE c.lps.length 1 32, withinE c.programs.length 1 32, withinE c.fin 1 1073741824, withinE c.fuel 1 1024, withinE c.fan 0 8] = l := ⟨_, rfl⟩
  have hz : firstE l = 0 ↔ sizesOk c := by
    rw [firstE_zero, ← hl]
    simp only [List.mem_cons, List.not_mem_nil, or_false, forall_eq_or_imp, forall_eq, within_iff, sizesOk]
    omega
  rw [hl]
  unfold sizesE
  split
  · exact hz.2 ‹_›
  · rcases firstE_mem l with h | h
    · exact absurd (hz.1 h) ‹_›
    · have hn : firstE l ≠ 0 := fun h => absurd (hz.1 h) ‹_›
      rw [← hl] at h
      simp only [List.mem_cons, List.not_mem_nil, or_false] at h
      rw [hl] at h
      rcases h with h | h | h | h | h <;> rw [h] at hn ⊢
      · exact (within_or _ _ _).resolve_left hn
      · exact (within_or _ _ _).resolve_left hn
      · exact (within_or _ _ _).resolve_left hn
      · exact (within_or _ _ _).resolve_left hn
      · exact (within_or _ _ _).resolve_left hn
structure Mid (c : Cfg) : Prop where
  p : c.programs.length ≤ 65536
  l : c.lps.length ≤ 65536
  s : c.starts.length ≤ 65536
set_option maxRecDepth 100000 in
set_option maxHeartbeats 4000000 in
theorem mcheck_calls (vs hs : List Value) (c : Cfg) (w : World) (F F2 : Nat → Prop) (h : (CfgA true vs hs c).at_ w F) (ht : Tab.at_ w F2) (hm : Mid c) :
    Calls Tryz.prog 66 #[.agg vs.toArray] w fun r w' => r = .returned (.int .i64 (cfgE c)) ∧ Below w.heap.size w w' := by
  have S : St (fun _ => False) w w [CfgA true vs hs c, Tab] := ((St.init _ w).share rfl rfl ht).share rfl rfl h
  obtain ⟨aP, cP, aL, cL, aS, cS, rfl, hlen, S⟩ := S.cfg 0 rfl
  replace S := S.pick [0, 1, 2, 3, 5] rfl
  simp only [pick, nth] at S
  clear h ht
  have hm1 := hm.p
  have hm2 := hm.l
  have hm3 := hm.s
  obtain ⟨ps, ls, ss, fin, fuel, fan⟩ := c
  simp only at *
  obtain ⟨r, hr⟩ : ∃ r, cfgE ⟨ps, ls, ss, fin, fuel, fan⟩ = r := ⟨_, rfl⟩
  have hq := sizes_eq ⟨ps, ls, ss, fin, fuel, fan⟩
  simp only at hq
  have e : firstE [firstE [withinE ls.length 1 32, withinE ps.length 1 32, withinE fin 1 1073741824, withinE fuel 1 1024, withinE fan 0 8], (if 256 < ss.length then 11 else 0), firstE (ps.map codeE),
      (if (∀ p ∈ ls, plOk ps.length p) ∧ (∀ s ∈ ss, stOk ls.length s) then 0 else 14), (if ∀ s ∈ ss, 0 ≤ s.at_ ∧ s.at_ ≤ fin then 0 else 18)] = r := by
    rw [← hr, hq]; rfl
  rw [hr]
  obtain ⟨x1, hx1⟩ : ∃ x, firstE [withinE ls.length 1 32, withinE ps.length 1 32, withinE fin 1 1073741824, withinE fuel 1 1024, withinE fan 0 8] = x := ⟨_, rfl⟩
  obtain ⟨x2, hx2⟩ : ∃ x : Int, (if 256 < ss.length then 11 else 0) = x := ⟨_, rfl⟩
  obtain ⟨x3, hx3⟩ : ∃ x, firstE (ps.map codeE) = x := ⟨_, rfl⟩
  obtain ⟨x4, hx4⟩ : ∃ x : Int, (if (∀ p ∈ ls, plOk ps.length p) ∧ (∀ s ∈ ss, stOk ls.length s) then 0 else 14) = x := ⟨_, rfl⟩
  obtain ⟨x5, hx5⟩ : ∃ x : Int, (if ∀ s ∈ ss, 0 ≤ s.at_ ∧ s.at_ ≤ fin then 0 else 18) = x := ⟨_, rfl⟩
  have c1 := sizes_calls aP aL aS ps.length cP ls.length cL ss.length cS fin fuel fan
  have c2 := starts_calls aP aL aS ps.length cP ls.length cL ss.length cS fin fuel fan
  have c3 := fun w F1 F2 F3 h1 h2 h3 => programs_calls aP aL aS cP ls.length cL ss.length cS fin fuel fan hs ps w F1 F2 F3 h1 h2 h3 hm1
  have c4 := fun w F1 F2 h1 h2 => ends_calls aP aL aS ps.length cP cL cS fin fuel fan ls ss w F1 F2 h1 h2 hm2 hm3
  have c5 := fun w F1 h1 => times_calls aP aL aS ps.length cP ls.length cL cS fin fuel fan ss w F1 h1 hm3
  rw [hx1] at c1 e
  rw [hx2] at c2 e
  rw [hx3] at c3 e
  rw [hx4] at c4 e
  rw [hx5] at c5 e
  clear hx1 hx2 hx3 hx4 hx5 hr hq
  have C1 := Lib.hid c1
  have C2 := Lib.hid c2
  have C3 := Lib.hid c3
  have C4 := Lib.hid c4
  have C5 := Lib.hid c5
  have E := Lib.hid e
  clear c1 c2 c3 c4 c5 e
  go_enter Tryz.func66, Tryz.ntmps66
  go_wp2_with first | ((with_reducible apply wps_boxa S); (case hx => rfl); clear S; intro bx wz S) | ((with_reducible refine tot_done ?ht ?_); (case ht => kernel_rfl)) | ((with_reducible apply wps_boxa S); (case hx => rfl); clear S; intro bz wz S) | ((with_reducible apply wps_box1 (v := .int _ _) S); (case hx | h1 => rfl); clear S; intro bz wz S) | ((with_reducible apply wps_box1 (v := .bool _) S); (case hx | h1 => rfl); clear S; intro bz wz S) | ((with_reducible apply wps_box1 (v := .slice _ _ _) S); (case hx | h1 => rfl); clear S; intro bz wz S) | ((with_reducible apply wps_box1 (v := .pointer _) S); (case hx | h1 => rfl); clear S; intro bz wz S) | ((with_reducible apply wps_box1 (v := .map _) S); (case hx | h1 => rfl); clear S; intro bz wz S) | ((with_reducible apply wps_box1 (v := .string _) S); (case hx | h1 => rfl); clear S; intro bz wz S) | ((with_reducible apply wps_box1 (v := .func _ _ _) S); (case hx | h1 => rfl); clear S; intro bz wz S) | ((with_reducible apply wps_loada (T := 26) (k := 6) S 0); (case hx | hi => rfl); (case hk => exact Nat.le_of_ble_eq_true rfl); (case hT => decide +kernel))
  (refine wp_region_w (soft := [0, 1, 2, 3, 4, 5, 6, 7, 8, 9]) S ?hm ?hB ?_); (case hm => kernel_rfl); (case hB => decide +kernel); clear S
  iterate 10
    (with_reducible apply softs_cons)
    (case hw =>
      (with_reducible apply soft_of); (case hi => rfl)
      intro T wz S
      simp only [List.cons_append, List.nil_append] at S
      go_wp2_with first | (go_at_call 116; refine Calls.mono (C1.out _) ?_; rintro e wz ⟨rfl, hE⟩; replace S := S.ext (Keep.of_below hE); clear hE) | (go_at_call 117; refine Calls.mono (C2.out _) ?_; rintro e wz ⟨rfl, hE⟩; replace S := S.ext (Keep.of_below hE); clear hE) | (go_at_call 118; refine Calls.mono (C3.out _ _ _ _ (S.get (i := 2) rfl).choose_spec (S.get (i := 1) rfl).choose_spec (S.get (i := 5) rfl).choose_spec) ?_; rintro e wz ⟨rfl, hE⟩; replace S := S.ext (Keep.of_below hE); clear hE) | (go_at_call 119; refine Calls.mono (C4.out _ _ _ (S.get (i := 3) rfl).choose_spec (S.get (i := 4) rfl).choose_spec) ?_; rintro e wz ⟨rfl, hE⟩; replace S := S.ext (Keep.of_below hE); clear hE) | (go_at_call 120; refine Calls.mono (C5.out _ _ (S.get (i := 4) rfl).choose_spec) ?_; rintro e wz ⟨rfl, hE⟩; replace S := S.ext (Keep.of_below hE); clear hE) | ((with_reducible refine tot_done ?ht ?_); (case ht => kernel_rfl)) | ((with_reducible apply wps_loada (T := 26) (k := 6) S 0); (case hx | hi => rfl); (case hk => exact Nat.le_of_ble_eq_true rfl); (case hT => decide +kernel))
      exact ⟨rfl, S⟩)
    (case hs => exact ⟨_, rfl, by kernel_rfl⟩)
  refine softs_nil ?_
  repeat'
    (first
      | ((with_reducible apply W_hard1 (i := 10)); (case hn => rfl); (case hr => decide +kernel)) | ((with_reducible apply W_hard1 (i := 11)); (case hn => rfl); (case hr => decide +kernel)) | ((with_reducible apply W_hard1 (i := 12)); (case hn => rfl); (case hr => decide +kernel)) | ((with_reducible apply W_hard2 (i := 10) (i' := 11)); (case hn => rfl); (case hr => decide +kernel)) | ((with_reducible apply W_hard2 (i := 10) (i' := 12)); (case hn => rfl); (case hr => decide +kernel)) | ((with_reducible apply W_hard2 (i := 11) (i' := 12)); (case hn => rfl); (case hr => decide +kernel)))
    all_goals
      intro wz S
      (with_reducible apply hard_of); (case hi => rfl)
      simp only [List.cons_append, List.nil_append] at S
      try simp only [pick, nth] at S
      go_wp2_with first | ((with_reducible apply wps_buildSlice (T := 292) (E := 40) (cs := #[.int .i64 x1, .int .i64 x2, .int .i64 x3, .int .i64 x4, .int .i64 x5]) S); (case hr => intro w; kernel_rfl); clear S; intro bz wz S) | (go_at_call 115; refine Calls.mono (first_calls _ [x1, x2, x3, x4, x5] _ _ (blk_sl _ intE_len (S.get (i := 6) rfl).choose_spec rfl rfl) (Nat.le_of_ble_eq_true rfl)) ?_; rintro e wz ⟨rfl, hE⟩; replace S := S.ext (Keep.of_below hE); clear hE) | ((with_reducible refine tot_done ?ht ?_); (case ht => kernel_rfl)) | ((with_reducible apply wps_loada (T := 26) (k := 6) S 0); (case hx | hi => rfl); (case hk => exact Nat.le_of_ble_eq_true rfl); (case hT => decide +kernel)) | ((with_reducible apply wps_loada (T := 26) (k := 6) S 1); (case hx | hi => rfl); (case hk => exact Nat.le_of_ble_eq_true rfl); (case hT => decide +kernel)) | ((with_reducible apply wps_loada (T := 26) (k := 6) S 2); (case hx | hi => rfl); (case hk => exact Nat.le_of_ble_eq_true rfl); (case hT => decide +kernel)) | ((with_reducible apply wps_loada (T := 26) (k := 6) S 3); (case hx | hi => rfl); (case hk => exact Nat.le_of_ble_eq_true rfl); (case hT => decide +kernel)) | ((with_reducible apply wps_loada (T := 26) (k := 6) S 4); (case hx | hi => rfl); (case hk => exact Nat.le_of_ble_eq_true rfl); (case hT => decide +kernel)) | ((with_reducible apply wps_loada (T := 26) (k := 6) S 5); (case hx | hi => rfl); (case hk => exact Nat.le_of_ble_eq_true rfl); (case hT => decide +kernel))
      first
        | refine ⟨_, S.pick [1, 2, 3, 4, 5, 6, 7, 8, 9, 10, 0] rfl, ?_⟩
        | refine ⟨_, S.pick [1, 2, 3, 4, 5, 6, 7, 8, 9, 0] rfl, ?_⟩
        | refine ⟨_, S.pick [1, 2, 3, 4, 5, 6, 7, 8, 0] rfl, ?_⟩
        | refine ⟨_, S.pick [1, 2, 3, 4, 5, 6, 7, 0] rfl, ?_⟩
        | refine ⟨_, S.pick [1, 2, 3, 4, 5, 6, 0] rfl, ?_⟩
        | refine ⟨_, S, ?_⟩
  (with_reducible apply W_done); (case hn => rfl); (case hr => decide +kernel)
  clear S
  intro wz S
  simp only [List.cons_append, List.nil_append] at S
  try simp only [pick, nth] at S
  go_wp2_with first | ((with_reducible refine tot_done ?ht ?_); (case ht => kernel_rfl)) | ((with_reducible apply wps_text S); (case hm => kernel_rfl); (case hB => decide +kernel); clear S; intro wz S) | ((with_reducible apply wps_loada (T := 26) (k := 6) S 0); (case hx | hi => rfl); (case hk => exact Nat.le_of_ble_eq_true rfl); (case hT => decide +kernel))
  go_ret
  exact ⟨ret_int E.out, S.below⟩
end Go.Proofs.YtmpfbkfemlhekaaGreatDoor

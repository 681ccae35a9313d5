import Derived.Test.YtjmecncebdbhdaaDoorU11
import Derived.Test.YtjmecncebdbhdaaDoorU08
import Derived.Test.YtjmecncebdbhdaaDoorU03
import Derived.Shelf.SlSortCmp.WholeK
import Derived.Shelf.SlSortCmp.Whole1
import Derived.Test.YtjmecncebdbhdaaDoorU05
import Derived.Deep.Cut
/- The walk of slices.SortStableFunc's insertion sort, and of the comparator. -/
namespace Go.Proofs.YtjmecncebdbhdaaDoor
open Go Go.RowKit Reg Mem

set_option maxRecDepth 100000 in
set_option maxHeartbeats 4000000 in
theorem cmpEv_calls (a b : Event) (w : World) : Calls Tryd.prog 59 #[.agg #[.int .i64 a.key.at_, .int .i64 a.key.src, .int .i64 a.key.sent, .int .i64 a.key.no, .int .i64 a.dst, .int .i64 a.kind, .int .i64 a.data], .agg #[.int .i64 b.key.at_, .int .i64 b.key.src, .int .i64 b.key.sent, .int .i64 b.key.no, .int .i64 b.dst, .int .i64 b.kind, .int .i64 b.data]] w fun e w' => e = .returned (.int .i64 (a.key.cmp b.key)) ∧ Below w.heap.size w w' := by
  have S := St.init (fun _ => False) w
  go_enter Tryd.func59, Tryd.ntmps59
  go_wp2_with first | (go_at_call 60; refine Calls.mono (compare_calls _ _ _ _ _ _ _ _ _) ?_; rintro e wz ⟨rfl, hE⟩; replace S := S.ext (Keep.of_below hE); clear hE) | ((with_reducible refine tot_done ?ht ?_); (case ht => kernel_rfl)) | ((with_reducible apply wps_boxa S); (case hx => rfl); clear S; intro bz wz S) | ((with_reducible apply wps_box1 (v := .int _ _) S); (case hx | h1 => rfl); clear S; intro bz wz S) | ((with_reducible apply wps_box1 (v := .bool _) S); (case hx | h1 => rfl); clear S; intro bz wz S) | ((with_reducible apply wps_box1 (v := .slice _ _ _) S); (case hx | h1 => rfl); clear S; intro bz wz S) | ((with_reducible apply wps_box1 (v := .pointer _) S); (case hx | h1 => rfl); clear S; intro bz wz S) | ((with_reducible apply wps_box1 (v := .map _) S); (case hx | h1 => rfl); clear S; intro bz wz S) | ((with_reducible apply wps_box1 (v := .string _) S); (case hx | h1 => rfl); clear S; intro bz wz S) | ((with_reducible apply wps_box1 (v := .func _ _ _) S); (case hx | h1 => rfl); clear S; intro bz wz S) | ((with_reducible apply wps_loada (T := 50) (k := 4) S 0); (case hx | hi => rfl); (case hk => exact Nat.le_of_ble_eq_true rfl); (case hT => decide +kernel)) | ((with_reducible apply wps_loada (T := 50) (k := 4) S 1); (case hx | hi => rfl); (case hk => exact Nat.le_of_ble_eq_true rfl); (case hT => decide +kernel)) | ((with_reducible apply wps_loada (T := 50) (k := 4) S 2); (case hx | hi => rfl); (case hk => exact Nat.le_of_ble_eq_true rfl); (case hT => decide +kernel)) | ((with_reducible apply wps_loada (T := 50) (k := 4) S 3); (case hx | hi => rfl); (case hk => exact Nat.le_of_ble_eq_true rfl); (case hT => decide +kernel))
  go_ret
  exact ⟨rfl, S.below⟩
/-- What the comparator says of two, where it is known. -/
theorem cmpEv_yes {x y : TE} (h : tless x y = true) (w : World) : Calls Tryd.prog 59 #[.agg #[.int .i64 x.1.key.at_, .int .i64 x.1.key.src, .int .i64 x.1.key.sent, .int .i64 x.1.key.no, .int .i64 x.1.dst, .int .i64 x.1.kind, .int .i64 x.1.data], .agg #[.int .i64 y.1.key.at_, .int .i64 y.1.key.src, .int .i64 y.1.key.sent, .int .i64 y.1.key.no, .int .i64 y.1.dst, .int .i64 y.1.kind, .int .i64 y.1.data]] w fun e w' => e = .returned (.int .i64 (-1)) ∧ Below w.heap.size w w' :=
  (cmpEv_calls x.1 y.1 w).mono fun e w' ⟨he, hb⟩ => ⟨by rw [he]; unfold Key.cmp; rw [if_pos (show x.1.key.lt y.1.key = true from h)], hb⟩
theorem cmpEv_no {x y : TE} (h : tless x y = false) (w : World) : Calls Tryd.prog 59 #[.agg #[.int .i64 x.1.key.at_, .int .i64 x.1.key.src, .int .i64 x.1.key.sent, .int .i64 x.1.key.no, .int .i64 x.1.dst, .int .i64 x.1.kind, .int .i64 x.1.data], .agg #[.int .i64 y.1.key.at_, .int .i64 y.1.key.src, .int .i64 y.1.key.sent, .int .i64 y.1.key.no, .int .i64 y.1.dst, .int .i64 y.1.kind, .int .i64 y.1.data]] w fun e w' => (∃ c : Int, 0 ≤ c ∧ e = .returned (.int .i64 c)) ∧ Below w.heap.size w w' :=
  (cmpEv_calls x.1 y.1 w).mono fun e w' ⟨he, hb⟩ => ⟨⟨x.1.key.cmp y.1.key, by unfold Key.cmp; rw [if_neg (show ¬ x.1.key.lt y.1.key = true by rw [show x.1.key.lt y.1.key = false from h]; simp)]; split <;> omega, he⟩, hb⟩
/-- The places of l are from n on. -/
def From (n : Nat) (l : List TE) : Prop := ∀ x ∈ l, n ≤ x.2
def InsRel (F : Nat → Prop) (R c N a : Nat) (p l q : List TE) (w : World) (iv : Value) (wr : World) : Prop :=
  ∃ (i k : Nat) (s : List TE), 1 ≤ k ∧ (k ≤ l.length ∨ k = 1) ∧ iv = .int .i64 i ∧ i = a + k ∧ s.Perm (l.take k) ∧ Srt s ∧ St F w wr [Own 52 tcells 7 (.slice (some ⟨R, 0, none⟩) N c) (p ++ s ++ l.drop k ++ q)]
/-- The one at k comes ahead of those of s behind k that it is less than. -/
def InsRel2 (F : Nat → Prop) (R c N a : Nat) (p s q : List TE) (x : TE) (w : World) (jv : Value) (wr : World) : Prop :=
  ∃ (i k : Nat), k ≤ s.length ∧ jv = .int .i64 i ∧ i = a + k ∧ (∀ y ∈ s.drop k, tless x y = true) ∧ St F w wr [Own 52 tcells 7 (.slice (some ⟨R, 0, none⟩) N c) (p ++ s.take k ++ x :: s.drop k ++ q)]
theorem ins_srt {s : List TE} {x : TE} {k : Nat} (hs : Srt s) (ht : ∀ y ∈ s, y.2 < x.2) (h1 : ∀ y ∈ s.drop k, tless x y = true) (h2 : k = 0 ∨ ∃ y, s[k - 1]? = some y ∧ tless x y = false) : Srt (s.take k ++ x :: s.drop k) := by
  have y1 : ∀ z ∈ s.take k, slt z x := fun z hz => by
    obtain ⟨j, hj, rfl⟩ := List.mem_take_iff_getElem.1 hz
    refine slt_no ?_ (ht _ (List.getElem_mem _))
    rcases h2 with h2 | ⟨y, hy, hxy⟩
    · omega
    · cases hz2 : tless x s[j] with
      | false => rfl
      | true =>
        rw [tless_run' hs (i := j) (j := k - 1) (by omega) (List.getElem?_eq_getElem (by omega)) hy hz2] at hxy; cases hxy
  refine List.pairwise_append.2 ⟨hs.sublist (List.take_sublist _ _), List.pairwise_cons.2 ⟨fun y hy => slt_yes (h1 y hy), hs.sublist (List.drop_sublist _ _)⟩, fun u hu v hv => ?_⟩
  rcases List.mem_cons.1 hv with rfl | hv
  · exact y1 u hu
  · exact slt_trans (y1 u hu) (slt_yes (h1 v hv))
theorem insS_perm {s l : List TE} {x : TE} {k j : Nat} (hs : s.Perm (l.take k)) (hx : l[k]? = some x) : (s.take j ++ x :: s.drop j).Perm (l.take (k + 1)) := by
  rw [List.take_add_one, hx]
  have e : (s.take j ++ x :: s.drop j).Perm (x :: s) := by
    refine List.perm_middle.trans ?_
    rw [List.take_append_drop]
  refine e.trans ?_
  refine (List.Perm.cons x hs).trans ?_
  exact (List.perm_append_singleton x _).symm
set_option maxRecDepth 100000 in
set_option maxHeartbeats 8000000 in
theorem insert_calls (R c N : Nat) (a b : Nat) (p l q : List TE) (w : World) (F : Nat → Prop) (h : (Own 52 tcells 7 (.slice (some ⟨R, 0, none⟩) N c) (p ++ l ++ q)).at_ w F)
    (hN : N = (p ++ l ++ q).length) (ha : a = p.length) (hb : b = a + l.length) (hn : N ≤ 65536) (ht : l.Pairwise (fun x y => x.2 < y.2)) :
    Calls Tryd.prog 75 #[.slice (some ⟨R, 0, none⟩) N c, .int .i64 a, .int .i64 b, .func (.func 59) #[] #[]] w fun e w' => e = .returned (.tuple #[]) ∧ ∃ s : List TE, s.Perm l ∧ Srt s ∧ St F w w' [Own 52 tcells 7 (.slice (some ⟨R, 0, none⟩) N c) (p ++ s ++ q)] := by
  have S := St.one w h
  clear h
  have gN : N = a + l.length + q.length := by rw [hN, ha]; simp; omega
  have g1 : b ≤ N := by omega
  have g0 : a ≤ b := by omega
  have Ha := Lib.hid ha
  have Hb := Lib.hid hb
  have Ht := Lib.hid ht
  have HgN := Lib.hid gN
  clear hN ha ht hb gN
  go_enter Tryd.func75, Tryd.ntmps75
  go_wp2_with first | go_skip | ((with_reducible refine wpList_skip ?hw ?_); (case hw => with_unfolding_all rfl); simp only [Act.put, List.setIfInBounds_toArray, List.set_cons_succ, List.set_cons_zero]) | ((with_reducible refine tot_done ?ht ?_); (case ht => kernel_rfl)) | ((with_reducible apply wps_text S); (case hm => kernel_rfl); (case hB => decide +kernel); clear S; intro wz S) | ((with_reducible apply wps_loada (T := 52) (k := 7) S 0); (case hx | hi => rfl); (case hk => exact Nat.le_of_ble_eq_true rfl); (case hT => decide +kernel)) | ((with_reducible apply wps_loada (T := 52) (k := 7) S 1); (case hx | hi => rfl); (case hk => exact Nat.le_of_ble_eq_true rfl); (case hT => decide +kernel)) | ((with_reducible apply wps_loada (T := 52) (k := 7) S 2); (case hx | hi => rfl); (case hk => exact Nat.le_of_ble_eq_true rfl); (case hT => decide +kernel)) | ((with_reducible apply wps_loada (T := 52) (k := 7) S 3); (case hx | hi => rfl); (case hk => exact Nat.le_of_ble_eq_true rfl); (case hT => decide +kernel))
  go_loopw [8, 9] (fun i _ wr => InsRel F R c N a p l q w i wr) (fun i _ _ => b - (intOf i).toNat)
  case atStart =>
    refine ⟨a + 1, 1, l.take 1, Nat.le_refl _, .inr rfl, by go_num, rfl, List.Perm.refl _, ?_, by rw [show p ++ l.take 1 ++ l.drop 1 ++ q = p ++ l ++ q by rw [List.append_assoc p, List.take_append_drop]]; exact S⟩
    match l with
    | [] => simp
    | x :: l => simp
  case round =>
    clear S
    obtain ⟨i, k, s, hk1, hk2, rfl, hik, hp, hs, S⟩ := hrel
    by_cases hlt : k < l.length
    · have hsl : s.length = k := by rw [hp.length_eq]; simp; omega
      obtain ⟨x, hx⟩ : ∃ x, l[k]? = some x := ⟨_, List.getElem?_eq_getElem hlt⟩
      have hd : l.drop k = x :: l.drop (k + 1) := by obtain ⟨h1, rfl⟩ := List.getElem?_eq_some_iff.1 hx; exact List.drop_eq_getElem_cons h1
      have HT : Hid (∀ y ∈ s, y.2 < x.2) := fun y hy => by
        obtain ⟨j, hj, rfl⟩ := List.mem_take_iff_getElem.1 (hp.mem_iff.1 hy)
        obtain ⟨h1, rfl⟩ := List.getElem?_eq_some_iff.1 hx
        exact List.pairwise_iff_getElem.1 Ht.out j k (by omega) h1 (by omega)
      have HS : Hid (p ++ s ++ l.drop k ++ q = p ++ s.take k ++ x :: s.drop k ++ (l.drop (k + 1) ++ q)) := by
        have e1 : s.take k = s := List.take_of_length_le (by omega)
        have e2 : s.drop k = [] := List.drop_eq_nil_of_le (by omega)
        rw [hd, e1, e2]; simp [Hid]
      rw [HS.out] at S
      have hab : (i : Int) < b := by have := Hb.out; omega
      have hib : i < b := by omega
      have hsb : a + s.length ≤ i := by omega
      have Hp := Lib.hid hp
      have Hs := Lib.hid hs
      have Hx := Lib.hid hx
      have Hsl := Lib.hid hsl
      have hk0 : k ≤ s.length := by omega
      have Hik := Lib.hid hik
      have HD0 : Hid (∀ y ∈ s.drop k, tless x y = true) := by rw [List.drop_eq_nil_of_le (by omega)]; simp [Hid]
      have HpA := Lib.hid Ha.out
      clear hp hs hx hsl hd hlt hik hk2
      go_wp2_with first | go_skip | ((with_reducible refine wpList_skip ?hw ?_); (case hw => with_unfolding_all rfl); simp only [Act.put, List.setIfInBounds_toArray, List.set_cons_succ, List.set_cons_zero]) | ((with_reducible refine tot_done ?ht ?_); (case ht => kernel_rfl)) | ((with_reducible apply wps_text S); (case hm => kernel_rfl); (case hB => decide +kernel); clear S; intro wz S) | ((with_reducible apply wps_loada (T := 52) (k := 7) S 0); (case hx | hi => rfl); (case hk => exact Nat.le_of_ble_eq_true rfl); (case hT => decide +kernel)) | ((with_reducible apply wps_loada (T := 52) (k := 7) S 1); (case hx | hi => rfl); (case hk => exact Nat.le_of_ble_eq_true rfl); (case hT => decide +kernel)) | ((with_reducible apply wps_loada (T := 52) (k := 7) S 2); (case hx | hi => rfl); (case hk => exact Nat.le_of_ble_eq_true rfl); (case hT => decide +kernel)) | ((with_reducible apply wps_loada (T := 52) (k := 7) S 3); (case hx | hi => rfl); (case hk => exact Nat.le_of_ble_eq_true rfl); (case hT => decide +kernel))
      go_loopw [9] (fun j wr => InsRel2 F R c N a p s (l.drop (k + 1) ++ q) x w j wr) (fun j _ => (intOf j).toNat)
      case atStart => exact ⟨i, k, hk0, rfl, Hik.out, HD0.out, S⟩
      case round =>
        clear S HD0
        obtain ⟨o, j, hj, rfl, hoj, hD, S⟩ := hrel
        by_cases hj0 : j = 0
        · have hoa : ¬ (a : Int) < o := by omega
          have HR := Lib.hid (ins_srt (x := x) (k := j) Hs.out HT.out hD (.inl hj0))
          have HP := Lib.hid (insS_perm (j := j) Hp.out Hx.out)
          have Hoj := Lib.hid hoj
          have HD := Lib.hid hD
          have Hj0 := Lib.hid hj0
          clear hoj hD hj0
          go_wp2_with first | go_skip | ((with_reducible refine wpList_skip ?hw ?_); (case hw => with_unfolding_all rfl); simp only [Act.put, List.setIfInBounds_toArray, List.set_cons_succ, List.set_cons_zero]) | ((with_reducible refine tot_done ?ht ?_); (case ht => kernel_rfl)) | ((with_reducible apply wps_text S); (case hm => kernel_rfl); (case hB => decide +kernel); clear S; intro wz S) | ((with_reducible apply wps_loada (T := 52) (k := 7) S 0); (case hx | hi => rfl); (case hk => exact Nat.le_of_ble_eq_true rfl); (case hT => decide +kernel)) | ((with_reducible apply wps_loada (T := 52) (k := 7) S 1); (case hx | hi => rfl); (case hk => exact Nat.le_of_ble_eq_true rfl); (case hT => decide +kernel)) | ((with_reducible apply wps_loada (T := 52) (k := 7) S 2); (case hx | hi => rfl); (case hk => exact Nat.le_of_ble_eq_true rfl); (case hT => decide +kernel)) | ((with_reducible apply wps_loada (T := 52) (k := 7) S 3); (case hx | hi => rfl); (case hk => exact Nat.le_of_ble_eq_true rfl); (case hT => decide +kernel))
          go_roundw
          case rel => exact ⟨i + 1, k + 1, s.take j ++ x :: s.drop j, by omega, .inl (by have := Hb.out; have := Hik.out; omega), by go_num, by have := Hik.out; omega, HP.out, HR.out, by simpa using S⟩
          case measure => first | (simp [intOf]; done) | (simp [intOf]; omega)
        · obtain ⟨j, rfl⟩ : ∃ n, j = n + 1 := ⟨j - 1, by omega⟩
          obtain ⟨o, rfl⟩ : ∃ n, o = n + 1 := ⟨o - 1, by omega⟩
          obtain ⟨y, hy⟩ : ∃ y, s[j]? = some y := ⟨_, List.getElem?_eq_getElem (by omega)⟩
          have hoa : (a : Int) < o + 1 := by omega
          have hoN : o + 1 < N := by omega
          have hsd : s.drop j = y :: s.drop (j + 1) := by obtain ⟨h1, rfl⟩ := List.getElem?_eq_some_iff.1 hy; exact List.drop_eq_getElem_cons h1
          have hst : s.take (j + 1) = s.take j ++ [y] := by rw [List.take_add_one, hy]; rfl
          have ljs : (s.take j).length = j := by simp; omega
          have HX : Hid ((p ++ s.take (j + 1) ++ x :: s.drop (j + 1) ++ (l.drop (k + 1) ++ q))[o + 1]? = some x) := by
            have := get_mid (p := p ++ s.take (j + 1)) (q := s.drop (j + 1) ++ (l.drop (k + 1) ++ q)) (x := x) (k := o + 1) (by rw [hst]; simp [ljs]; have := HpA.out; omega)
            simpa [Hid] using this
          have HY : Hid ((p ++ s.take (j + 1) ++ x :: s.drop (j + 1) ++ (l.drop (k + 1) ++ q))[o]? = some y) := by
            have := get_mid (p := p ++ s.take j) (q := x :: s.drop (j + 1) ++ (l.drop (k + 1) ++ q)) (x := y) (k := o) (by simp [ljs]; have := HpA.out; omega)
            rw [hst]; simpa [Hid] using this
          have HY2 : Hid (((p ++ s.take (j + 1) ++ x :: s.drop (j + 1) ++ (l.drop (k + 1) ++ q)).set (o + 1) y)[o]? = some y) := by
            rw [List.getElem?_set_ne (by omega)]; exact HY.out
          have HE : Hid (((p ++ s.take (j + 1) ++ x :: s.drop (j + 1) ++ (l.drop (k + 1) ++ q)).set (o + 1) y).set o x = p ++ s.take j ++ x :: s.drop j ++ (l.drop (k + 1) ++ q)) := by
            have e1 := set_mid (p := p ++ s.take (j + 1)) (q := s.drop (j + 1) ++ (l.drop (k + 1) ++ q)) (x := x) (y := y) (k := o + 1) (by rw [hst]; simp [ljs]; have := HpA.out; omega)
            have e2 := set_mid (p := p ++ s.take j) (q := y :: s.drop (j + 1) ++ (l.drop (k + 1) ++ q)) (x := y) (y := x) (k := o) (by simp [ljs]; have := HpA.out; omega)
            rw [hst] at e1 ⊢
            rw [hsd]
            simp only [List.append_assoc, List.cons_append, List.nil_append] at *
            rw [e1, e2]; rfl
          clear hst ljs
          cases hc : tless x y with
          | true =>
            have HC := Lib.hid (cmpEv_yes hc)
            have HD2 : Hid (∀ z ∈ s.drop j, tless x z = true) := by
              rw [hsd]; intro z hz
              rcases List.mem_cons.1 hz with rfl | hz
              · exact hc
              · exact hD z hz
            generalize p ++ s.take (j + 1) ++ x :: s.drop (j + 1) ++ (l.drop (k + 1) ++ q) = cur at *
            clear hc hsd
            have Hy := Lib.hid hy
            have Hoj := Lib.hid hoj
            have HD := Lib.hid hD
            clear hy hoj hD
            go_wp2_with first | go_skip | ((with_reducible refine wpList_skip ?hw ?_); (case hw => with_unfolding_all rfl); simp only [Act.put, List.setIfInBounds_toArray, List.set_cons_succ, List.set_cons_zero]) | ((with_reducible apply wps_loada_own tlen S 0 (hj := HX.out) (q := 0) (vs := [.int .i64 x.1.key.at_, .int .i64 x.1.key.src, .int .i64 x.1.key.sent, .int .i64 x.1.key.no, .int .i64 x.1.dst, .int .i64 x.1.kind, .int .i64 x.1.data]) (m := 7)); (case hx | hi => rfl); (case hn => omega); (case hm | hv => rfl); (case hT => decide +kernel)) | ((with_reducible apply wps_loada_own tlen S 0 (hj := HY.out) (q := 0) (vs := [.int .i64 y.1.key.at_, .int .i64 y.1.key.src, .int .i64 y.1.key.sent, .int .i64 y.1.key.no, .int .i64 y.1.dst, .int .i64 y.1.kind, .int .i64 y.1.data]) (m := 7)); (case hx | hi => rfl); (case hn => omega); (case hm | hv => rfl); (case hT => decide +kernel)) | (go_at_call 59; refine Calls.mono (HC.out _) ?_; rintro e wz ⟨rfl, hE⟩; replace S := S.ext (Keep.of_below hE); clear hE) | ((with_reducible apply wps_store_owna tlen S 0 (hj := HX.out) (e' := y) (q := 0) (vs := [.int .i64 y.1.key.at_, .int .i64 y.1.key.src, .int .i64 y.1.key.sent, .int .i64 y.1.key.no, .int .i64 y.1.dst, .int .i64 y.1.kind, .int .i64 y.1.data]) (m := 7)); (case hx => rfl); (case hn => omega); (case hi | hy | hm | h1 | he => rfl); (case hq => exact Nat.le_of_ble_eq_true rfl); (case hT => decide +kernel); clear S; intro wz S; simp only [List.set_cons_zero] at S) | ((with_reducible apply wps_store_owna tlen S 0 (hj := HY2.out) (e' := x) (q := 0) (vs := [.int .i64 x.1.key.at_, .int .i64 x.1.key.src, .int .i64 x.1.key.sent, .int .i64 x.1.key.no, .int .i64 x.1.dst, .int .i64 x.1.kind, .int .i64 x.1.data]) (m := 7)); (case hx => rfl); (case hn => omega); (case hi | hy | hm | h1 | he => rfl); (case hq => exact Nat.le_of_ble_eq_true rfl); (case hT => decide +kernel); clear S; intro wz S; simp only [List.set_cons_zero] at S) | ((with_reducible refine tot_done ?ht ?_); (case ht => kernel_rfl)) | ((with_reducible apply wps_text S); (case hm => kernel_rfl); (case hB => decide +kernel); clear S; intro wz S) | ((with_reducible apply wps_loada (T := 52) (k := 7) S 0); (case hx | hi => rfl); (case hk => exact Nat.le_of_ble_eq_true rfl); (case hT => decide +kernel)) | ((with_reducible apply wps_loada (T := 52) (k := 7) S 1); (case hx | hi => rfl); (case hk => exact Nat.le_of_ble_eq_true rfl); (case hT => decide +kernel)) | ((with_reducible apply wps_loada (T := 52) (k := 7) S 2); (case hx | hi => rfl); (case hk => exact Nat.le_of_ble_eq_true rfl); (case hT => decide +kernel)) | ((with_reducible apply wps_loada (T := 52) (k := 7) S 3); (case hx | hi => rfl); (case hk => exact Nat.le_of_ble_eq_true rfl); (case hT => decide +kernel))
            rw [HE.out] at S
            go_roundw
            case rel => exact ⟨o, j, by omega, by go_num, by have := Hoj.out; omega, HD2.out, S⟩
            case measure => first | (simp [intOf]; done) | (simp [intOf]; omega)
          | false =>
            have HC := Lib.hid (cmpEv_no hc)
            have HR := Lib.hid (ins_srt (x := x) (k := j + 1) Hs.out HT.out hD (.inr ⟨y, hy, hc⟩))
            have HP := Lib.hid (insS_perm (j := j + 1) Hp.out Hx.out)
            have HS2 : Hid (p ++ s.take (j + 1) ++ x :: s.drop (j + 1) ++ (l.drop (k + 1) ++ q) = p ++ (s.take (j + 1) ++ x :: s.drop (j + 1)) ++ l.drop (k + 1) ++ q) := by simp [Hid]
            generalize p ++ s.take (j + 1) ++ x :: s.drop (j + 1) ++ (l.drop (k + 1) ++ q) = cur at *
            clear hc hsd
            have Hy := Lib.hid hy
            have Hoj := Lib.hid hoj
            have HD := Lib.hid hD
            clear hy hoj hD
            go_wp2_with first | go_skip | ((with_reducible refine wpList_skip ?hw ?_); (case hw => with_unfolding_all rfl); simp only [Act.put, List.setIfInBounds_toArray, List.set_cons_succ, List.set_cons_zero]) | ((with_reducible apply wps_loada_own tlen S 0 (hj := HX.out) (q := 0) (vs := [.int .i64 x.1.key.at_, .int .i64 x.1.key.src, .int .i64 x.1.key.sent, .int .i64 x.1.key.no, .int .i64 x.1.dst, .int .i64 x.1.kind, .int .i64 x.1.data]) (m := 7)); (case hx | hi => rfl); (case hn => omega); (case hm | hv => rfl); (case hT => decide +kernel)) | ((with_reducible apply wps_loada_own tlen S 0 (hj := HY.out) (q := 0) (vs := [.int .i64 y.1.key.at_, .int .i64 y.1.key.src, .int .i64 y.1.key.sent, .int .i64 y.1.key.no, .int .i64 y.1.dst, .int .i64 y.1.kind, .int .i64 y.1.data]) (m := 7)); (case hx | hi => rfl); (case hn => omega); (case hm | hv => rfl); (case hT => decide +kernel)) | (go_at_call 59; refine Calls.mono (HC.out _) ?_; rintro e wz ⟨⟨cv, hcv, rfl⟩, hE⟩; have hcv2 : ¬ cv < 0 := (by omega); replace S := S.ext (Keep.of_below hE); clear hE) | ((with_reducible refine tot_done ?ht ?_); (case ht => kernel_rfl)) | ((with_reducible apply wps_text S); (case hm => kernel_rfl); (case hB => decide +kernel); clear S; intro wz S) | ((with_reducible apply wps_loada (T := 52) (k := 7) S 0); (case hx | hi => rfl); (case hk => exact Nat.le_of_ble_eq_true rfl); (case hT => decide +kernel)) | ((with_reducible apply wps_loada (T := 52) (k := 7) S 1); (case hx | hi => rfl); (case hk => exact Nat.le_of_ble_eq_true rfl); (case hT => decide +kernel)) | ((with_reducible apply wps_loada (T := 52) (k := 7) S 2); (case hx | hi => rfl); (case hk => exact Nat.le_of_ble_eq_true rfl); (case hT => decide +kernel)) | ((with_reducible apply wps_loada (T := 52) (k := 7) S 3); (case hx | hi => rfl); (case hk => exact Nat.le_of_ble_eq_true rfl); (case hT => decide +kernel))
            rw [HS2.out] at S
            go_roundw
            case rel => exact ⟨i + 1, k + 1, s.take (j + 1) ++ x :: s.drop (j + 1), by omega, .inl (by have := Hb.out; have := Hik.out; omega), by go_num, by have := Hik.out; omega, HP.out, HR.out, S⟩
            case measure => first | (simp [intOf]; done) | (simp [intOf]; omega)
    · have hge : ¬ (i : Int) < b := by have := Hb.out; omega
      have e1 : l.take k = l := List.take_of_length_le (by omega)
      have e2 : l.drop k = [] := List.drop_eq_nil_of_le (by omega)
      rw [e2] at S
      rw [e1] at hp
      clear hik e1 e2
      have Hp := Lib.hid hp
      have Hs := Lib.hid hs
      clear hp hs
      go_wp2_with first | go_skip | ((with_reducible refine wpList_skip ?hw ?_); (case hw => with_unfolding_all rfl); simp only [Act.put, List.setIfInBounds_toArray, List.set_cons_succ, List.set_cons_zero]) | ((with_reducible refine tot_done ?ht ?_); (case ht => kernel_rfl)) | ((with_reducible apply wps_text S); (case hm => kernel_rfl); (case hB => decide +kernel); clear S; intro wz S) | ((with_reducible apply wps_loada (T := 52) (k := 7) S 0); (case hx | hi => rfl); (case hk => exact Nat.le_of_ble_eq_true rfl); (case hT => decide +kernel)) | ((with_reducible apply wps_loada (T := 52) (k := 7) S 1); (case hx | hi => rfl); (case hk => exact Nat.le_of_ble_eq_true rfl); (case hT => decide +kernel)) | ((with_reducible apply wps_loada (T := 52) (k := 7) S 2); (case hx | hi => rfl); (case hk => exact Nat.le_of_ble_eq_true rfl); (case hT => decide +kernel)) | ((with_reducible apply wps_loada (T := 52) (k := 7) S 3); (case hx | hi => rfl); (case hk => exact Nat.le_of_ble_eq_true rfl); (case hT => decide +kernel))
      go_end0
      exact ⟨rfl, s, Hp.out, Hs.out, by simpa using S⟩
end Go.Proofs.YtjmecncebdbhdaaDoor
/- Stable sorting, plain: runs that are merged, and what the sorted list is. -/
namespace Go.Proofs.YtjmecncebdbhdaaDoor

def InT (a : Nat) (l : List TE) : Prop := ∀ x ∈ l, a ≤ x.2 ∧ x.2 < a + l.length
inductive Runs (k : Nat) : Nat → List TE → Prop
  | last {a : Nat} {l : List TE} : l.length ≤ k → Srt l → InT a l → Runs k a l
  | cons {a : Nat} {l r : List TE} : l.length = k → Srt l → InT a l → Runs k (a + k) r → Runs k a (l ++ r)
structure Done (k a : Nat) (d : List TE) : Prop where
  len : d.length = a
  go : ∀ r, Runs k a r → Runs k 0 (d ++ r)
theorem Done.start (k : Nat) : Done k 0 [] := ⟨rfl, fun _ h => h⟩
theorem Done.step {k a : Nat} {d l : List TE} (h : Done k a d) (hl : l.length = k) (hs : Srt l) (hi : InT a l) : Done k (a + k) (d ++ l) :=
  ⟨by rw [List.length_append, h.len, hl], fun r hr => by rw [List.append_assoc]; exact h.go _ (.cons hl hs hi hr)⟩
theorem InT.perm {a : Nat} {l m : List TE} (h : InT a l) (hp : m.Perm l) : InT a m := fun x hx => by
  have := h x (hp.mem_iff.1 hx)
  rw [hp.length_eq]; exact this
theorem InT.two {a k : Nat} {l m : List TE} (h1 : InT a l) (h2 : InT (a + k) m) (hl : l.length = k) : InT a (l ++ m) ∧ ∀ x ∈ l, ∀ y ∈ m, x.2 < y.2 := by
  refine ⟨fun x hx => ?_, fun x hx y hy => ?_⟩
  · rw [List.length_append]
    rcases List.mem_append.1 hx with h | h
    · have := h1 x h; omega
    · have := h2 x h; omega
  · have := h1 x hx; have := h2 y hy; omega
theorem runs_two {k a : Nat} {r : List TE} (h : Runs k a r) (hk : 0 < k) (hl : 2 * k ≤ r.length) :
    ∃ l1 l2 r2 : List TE, r = l1 ++ l2 ++ r2 ∧ l1.length = k ∧ l2.length = k ∧ Srt l1 ∧ Srt l2 ∧ InT a l1 ∧ InT (a + k) l2 ∧ Runs k (a + 2 * k) r2 := by
  cases h with
  | last h1 h2 h3 => omega
  | @cons _ l r h1 h2 h3 h4 =>
    cases h4 with
    | last g1 g2 g3 =>
      have : r.length = k := by simp at hl; omega
      exact ⟨l, r, [], by simp, h1, this, h2, g2, h3, g3, .last (by simp) List.Pairwise.nil (fun x hx => by cases hx)⟩
    | @cons _ l' r' g1 g2 g3 g4 => exact ⟨l, l', r', by simp, h1, g1, h2, g2, h3, g3, by rw [show a + 2 * k = a + k + k by omega]; exact g4⟩
theorem runs_one {k a : Nat} {r : List TE} (h : Runs k a r) (hl : r.length < 2 * k) (hl2 : k < r.length) :
    ∃ l1 l2 : List TE, r = l1 ++ l2 ∧ l1.length = k ∧ Srt l1 ∧ Srt l2 ∧ InT a l1 ∧ InT (a + k) l2 := by
  cases h with
  | last h1 h2 h3 => omega
  | @cons _ l r h1 h2 h3 h4 =>
    cases h4 with
    | last g1 g2 g3 => exact ⟨l, r, rfl, h1, h2, g2, h3, g3⟩
    | @cons _ l' r' g1 g2 g3 g4 =>
      have : r' = [] := List.eq_nil_of_length_eq_zero (by simp at hl; omega)
      subst this
      exact ⟨l, l' ++ [], rfl, h1, h2, by rw [List.append_nil]; exact g2, h3, by rw [List.append_nil]; exact g3⟩
theorem runs_srt {k a : Nat} {r : List TE} (h : Runs k a r) (hl : r.length ≤ k) : Srt r ∧ InT a r := by
  cases h with
  | last h1 h2 h3 => exact ⟨h2, h3⟩
  | @cons _ l r h1 h2 h3 h4 =>
    have : r = [] := List.eq_nil_of_length_eq_zero (by simp at hl; omega)
    subst this
    rw [List.append_nil]; exact ⟨h2, h3⟩
/-- Events with their places. -/
def tag (l : List Event) : List TE := l.zipIdx
theorem tag_len (l : List Event) : (tag l).length = l.length := by simp [tag]
theorem tag_get (l : List Event) (i : Nat) : (tag l)[i]? = l[i]?.map fun x => (x, i) := by simp [tag, List.getElem?_zipIdx]
theorem tag_map (l : List Event) : (tag l).map (·.1) = l := by
  apply List.ext_getElem?
  intro i
  rw [List.getElem?_map, tag_get]
  cases l[i]? <;> rfl
theorem tag_idx {l : List Event} {i : Nat} {x : TE} (h : (tag l)[i]? = some x) : x.2 = i := by
  rw [tag_get] at h
  obtain ⟨y, _, rfl⟩ := Option.map_eq_some_iff.1 h
  rfl
theorem tag_rise (l : List Event) : (tag l).Pairwise (fun x y => x.2 < y.2) := by
  rw [List.pairwise_iff_getElem]
  intro i j hi hj hij
  rw [tag_idx (List.getElem?_eq_getElem hi), tag_idx (List.getElem?_eq_getElem hj)]; exact hij
theorem tag_in (l : List Event) (a n : Nat) (h : a + n ≤ l.length) : InT a (((tag l).drop a).take n) := fun x hx => by
  obtain ⟨k, hk, rfl⟩ := List.mem_take_iff_getElem.1 hx
  have hk2 : k < ((tag l).drop a).length := by omega
  have e := tag_idx (l := l) (i := a + k) (x := ((tag l).drop a)[k]) (by rw [← List.getElem?_drop]; exact List.getElem?_eq_getElem hk2)
  rw [e]
  simp only [List.length_take, List.length_drop, tag_len]
  rw [List.length_drop, tag_len] at hk2
  omega
/-- The sorted list: each is put behind those that it is not ahead of. -/
def insE (out : List Event) (x : Event) : List Event := out.takeWhile (fun y => !x.key.lt y.key) ++ x :: out.dropWhile (fun y => !x.key.lt y.key)
def sortE (l : List Event) : List Event := l.foldl insE []
def insT (out : List TE) (x : TE) : List TE := out.takeWhile (fun y => !tless x y) ++ x :: out.dropWhile (fun y => !tless x y)
theorem insT_map (out : List TE) (x : TE) : (insT out x).map (·.1) = insE (out.map (·.1)) x.1 := by
  simp only [insT, insE, List.map_append, List.map_cons, List.takeWhile_map, List.dropWhile_map]
  rfl
theorem tw_mem {α : Type} {p : α → Bool} : ∀ {l : List α} {z : α}, z ∈ l.takeWhile p → p z = true
  | [], z, h => by simp at h
  | a :: l, z, h => by
    rw [List.takeWhile_cons] at h
    split at h
    · rename_i ha
      rcases List.mem_cons.1 h with rfl | h
      · exact ha
      · exact tw_mem h
    · simp at h
theorem insT_perm (out : List TE) (x : TE) : (insT out x).Perm (x :: out) := by
  refine List.perm_middle.trans ?_
  rw [List.takeWhile_append_dropWhile]
theorem insT_srt {out : List TE} {x : TE} (hs : Srt out) (ht : ∀ y ∈ out, y.2 < x.2) : Srt (insT out x) := by
  have y1 : ∀ z ∈ out.takeWhile (fun y => !tless x y), slt z x := fun z hz => by
    have h1 := tw_mem hz
    exact slt_no (by simpa using h1) (ht z ((List.takeWhile_sublist _).subset hz))
  have hd : Srt (out.dropWhile (fun y => !tless x y)) := hs.sublist (List.dropWhile_sublist _)
  have y2 : ∀ z ∈ out.dropWhile (fun y => !tless x y), slt x z := by
    cases hq : out.dropWhile (fun y => !tless x y) with
    | nil => intro z hz; cases hz
    | cons y r =>
      have hy : tless x y = true := by
        have := List.head?_dropWhile_not (p := fun y => !tless x y) (l := out)
        rw [hq] at this; simpa using this
      rw [hq] at hd
      intro z hz
      rcases List.mem_cons.1 hz with rfl | hz
      · exact slt_yes hy
      · exact slt_trans (slt_yes hy) ((List.pairwise_cons.1 hd).1 z hz)
  refine List.pairwise_append.2 ⟨hs.sublist (List.takeWhile_sublist _), List.pairwise_cons.2 ⟨y2, hd⟩, fun u hu v hv => ?_⟩
  rcases List.mem_cons.1 hv with rfl | hv
  · exact y1 u hu
  · exact slt_trans (y1 u hu) (y2 v hv)
theorem foldT : ∀ (l out : List TE), Srt out → (∀ x ∈ out, ∀ y ∈ l, x.2 < y.2) → l.Pairwise (fun x y => x.2 < y.2) → Srt (l.foldl insT out) ∧ (l.foldl insT out).Perm (out ++ l) ∧ (l.foldl insT out).map (·.1) = (l.map (·.1)).foldl insE (out.map (·.1))
  | [], out, hs, _, _ => by simpa using hs
  | x :: l, out, hs, ht, hl => by
    have hl' := List.pairwise_cons.1 hl
    have hp := insT_perm out x
    have h1 := insT_srt (x := x) hs (fun y hy => ht y hy x (by simp))
    obtain ⟨g1, g2, g3⟩ := foldT l (insT out x) h1 (fun y hy z hz => by
      rcases List.mem_cons.1 (hp.mem_iff.1 hy) with rfl | hy
      · exact hl'.1 z hz
      · exact ht y hy z (by simp [hz])) hl'.2
    refine ⟨g1, ?_, by rw [List.foldl_cons, g3, insT_map]; rfl⟩
    rw [List.foldl_cons]
    refine g2.trans ((hp.append_right l).trans ?_)
    exact (List.perm_middle (l₁ := out)).symm
theorem sortE_of {l : List Event} {ys : List TE} (hp : ys.Perm (tag l)) (hs : Srt ys) : ys.map (·.1) = sortE l := by
  obtain ⟨g1, g2, g3⟩ := foldT (tag l) [] List.Pairwise.nil (fun x hx => by cases hx) (tag_rise l)
  rw [srt_uniq hs g1 (hp.trans (by simpa using g2.symm)), g3, tag_map]; rfl
theorem sortE_ex (l : List Event) : ∃ ys : List TE, ys.Perm (tag l) ∧ Srt ys ∧ ys.map (·.1) = sortE l := by
  obtain ⟨g1, g2, g3⟩ := foldT (tag l) [] List.Pairwise.nil (fun x hx => by cases hx) (tag_rise l)
  exact ⟨_, by simpa using g2, g1, by rw [g3, tag_map]; rfl⟩
theorem sortE_perm (l : List Event) : (sortE l).Perm l := by
  obtain ⟨ys, h1, _, h3⟩ := sortE_ex l
  rw [← h3]
  have := h1.map (·.1)
  rwa [tag_map] at this
theorem sortE_len (l : List Event) : (sortE l).length = l.length := (sortE_perm l).length_eq
end Go.Proofs.YtjmecncebdbhdaaDoor
/- The walks of cmp.Compare and cmp.Or at ints (beside C2). -/
namespace Go.Proofs.YtjmecncebdbhdaaDoor
open Go Go.RowKit Reg Mem

theorem isNaN_calls (x : Int) (w : World) : Calls Tryd.prog 85 #[.int .i64 x] w fun r w' => r = .returned (.bool false) ∧ Below w.heap.size w w' := by
  have S := St.init (fun _ => False) w
  go_enter Tryd.func85, Tryd.ntmps85
  go_wp2_with first | ((with_reducible refine tot_done ?ht ?_); (case ht => kernel_rfl))
  go_ret
  exact ⟨by simp, S.below⟩
def icmp (x y : Int) : Int := if x < y then -1 else if y < x then 1 else 0
theorem cmpInt_calls (x y : Int) (w : World) : Calls Tryd.prog 53 #[.int .i64 x, .int .i64 y] w fun r w' => r = .returned (.int .i64 (icmp x y)) ∧ Below w.heap.size w w' := by
  have S := St.init (fun _ => False) w
  by_cases h1 : x < y
  · go_enter Tryd.func53, Tryd.ntmps53
    go_wp2_with first | (go_at_call 85; refine Calls.mono (isNaN_calls _ _) ?_; rintro e wz ⟨rfl, hE⟩; replace S := S.ext (Keep.of_below hE); clear hE) | ((with_reducible refine tot_done ?ht ?_); (case ht => kernel_rfl))
    go_ret
    exact ⟨ret_int (by unfold icmp; rw [if_pos (by omega)]), S.below⟩
  · by_cases h2 : y < x
    · go_enter Tryd.func53, Tryd.ntmps53
      go_wp2_with first | (go_at_call 85; refine Calls.mono (isNaN_calls _ _) ?_; rintro e wz ⟨rfl, hE⟩; replace S := S.ext (Keep.of_below hE); clear hE) | ((with_reducible refine tot_done ?ht ?_); (case ht => kernel_rfl))
      go_ret
      exact ⟨ret_int (by unfold icmp; rw [if_neg (by omega), if_pos (by omega)]), S.below⟩
    · go_enter Tryd.func53, Tryd.ntmps53
      go_wp2_with first | (go_at_call 85; refine Calls.mono (isNaN_calls _ _) ?_; rintro e wz ⟨rfl, hE⟩; replace S := S.ext (Keep.of_below hE); clear hE) | ((with_reducible refine tot_done ?ht ?_); (case ht => kernel_rfl))
      go_ret
      exact ⟨ret_int (by unfold icmp; rw [if_neg (by omega), if_neg (by omega)]), S.below⟩
def orL : List Int → Int
  | [] => 0
  | x :: l => if x ≠ 0 then x else orL l
theorem orL_at {l : List Int} {j : Nat} {x : Int} (h : ∀ (q : Nat) y, q < j → l[q]? = some y → y = 0) (hj : l[j]? = some x) (hx : x ≠ 0) : orL l = x := by
  induction l generalizing j with
  | nil => simp at hj
  | cons a l ih =>
    cases j with
    | zero => simp at hj; subst hj; simp [orL, hx]
    | succ j =>
      have ha := h 0 a (by omega) rfl
      rw [orL, if_neg (by simp [ha])]
      exact ih (j := j) (fun q y hq hy => h (q + 1) y (by omega) (by simpa using hy)) (by simpa using hj)
theorem orL_zero {l : List Int} (h : ∀ (q : Nat) y, l[q]? = some y → y = 0) : orL l = 0 := by
  induction l with
  | nil => rfl
  | cons a l ih =>
    have ha := h 0 a rfl
    rw [orL, if_neg (by simp [ha])]
    exact ih (fun q y hy => h (q + 1) y (by simpa using hy))
def OrRel (ad : Option Addr) (c : Nat) (l : List Int) (w : World) (i : Value) (wr : World) : Prop :=
  ∃ j : Nat, j ≤ l.length ∧ i = .int .i64 j ∧ (∀ (q : Nat) y, q < j → l[q]? = some y → y = 0) ∧ St (fun _ => False) w wr [Sl true intE 1 (.slice ad l.length c) l]
theorem orInt_calls (v : Value) (l : List Int) (w : World) (F : Nat → Prop) (h : (Sl true intE 1 v l).at_ w F) (hn : l.length ≤ 4294967296) : Calls Tryd.prog 52 #[v] w fun r w' => r = .returned (.int .i64 (orL l)) ∧ Below w.heap.size w w' := by
  have S : St (fun _ => False) w w [Sl true intE 1 v l] := (St.init _ w).share rfl rfl h
  obtain ⟨F1, hs⟩ := S.sl 0 rfl
  obtain ⟨ad, cp, rfl, _⟩ := hs.form
  clear hs
  go_enter Tryd.func52, Tryd.ntmps52
  go_wp2_with first | ((with_reducible refine tot_done ?ht ?_); (case ht => kernel_rfl)) | ((with_reducible apply wps_load S 0); (case hx | hi | hu => rfl); (case hT => decide +kernel)) | ((with_reducible apply wps_load S 1); (case hx | hi | hu => rfl); (case hT => decide +kernel)) | ((with_reducible apply wps_load S 2); (case hx | hi | hu => rfl); (case hT => decide +kernel)) | ((with_reducible apply wps_load S 3); (case hx | hi | hu => rfl); (case hT => decide +kernel))
  go_loopw [8] (fun i wr => OrRel ad cp l w i wr) (fun i _ => l.length - (intOf i).toNat)
  case atStart => exact ⟨0, Nat.zero_le _, rfl, fun q r h => by omega, S⟩
  case round =>
    clear S
    obtain ⟨j, hj, rfl, hz, S⟩ := hrel
    have Hz := Lib.hid hz
    clear hz
    by_cases hlt : j < l.length
    · obtain ⟨x, hx⟩ : ∃ x, l[j]? = some x := ⟨_, List.getElem?_eq_getElem hlt⟩
      obtain ⟨R, o, rfl⟩ : ∃ R o, ad = some ⟨R, o, none⟩ := (S.sl 0 rfl).elim fun F h => h.head (Nat.zero_lt_of_lt hlt)
      have hlt2 : (j : Int) < l.length := by omega
      have Hx := Lib.hid hx
      clear hx
      by_cases h0 : x = 0
      · go_wp2_with first | ((with_reducible apply wps_load_el S 0 (hj := Hx.out) (q := 0) (u := .int .i64 x)); (case hx | hi => rfl); (case hn => omega); (case hu => rfl); (case hT => decide +kernel)) | ((with_reducible refine tot_done ?ht ?_); (case ht => kernel_rfl)) | ((with_reducible apply wps_load S 0); (case hx | hi | hu => rfl); (case hT => decide +kernel)) | ((with_reducible apply wps_load S 1); (case hx | hi | hu => rfl); (case hT => decide +kernel)) | ((with_reducible apply wps_load S 2); (case hx | hi | hu => rfl); (case hT => decide +kernel)) | ((with_reducible apply wps_load S 3); (case hx | hi | hu => rfl); (case hT => decide +kernel))
        go_roundw
        case rel =>
          refine ⟨j + 1, by omega, by go_num, fun q r hq hr => ?_, S⟩
          by_cases e : q = j
          · subst e; rw [Hx.out] at hr; cases hr; exact h0
          · exact Hz.out q r (by omega) hr
        case measure => simp [intOf]; omega
      · go_wp2_with first | ((with_reducible apply wps_load_el S 0 (hj := Hx.out) (q := 0) (u := .int .i64 x)); (case hx | hi => rfl); (case hn => omega); (case hu => rfl); (case hT => decide +kernel)) | ((with_reducible refine tot_done ?ht ?_); (case ht => kernel_rfl)) | ((with_reducible apply wps_load S 0); (case hx | hi | hu => rfl); (case hT => decide +kernel)) | ((with_reducible apply wps_load S 1); (case hx | hi | hu => rfl); (case hT => decide +kernel)) | ((with_reducible apply wps_load S 2); (case hx | hi | hu => rfl); (case hT => decide +kernel)) | ((with_reducible apply wps_load S 3); (case hx | hi | hu => rfl); (case hT => decide +kernel))
        go_ret
        exact ⟨ret_int (orL_at Hz.out Hx.out h0).symm, S.below⟩
    · obtain rfl : j = l.length := by omega
      go_wp2_with first | ((with_reducible refine tot_done ?ht ?_); (case ht => kernel_rfl)) | ((with_reducible apply wps_load S 0); (case hx | hi | hu => rfl); (case hT => decide +kernel)) | ((with_reducible apply wps_load S 1); (case hx | hi | hu => rfl); (case hT => decide +kernel)) | ((with_reducible apply wps_load S 2); (case hx | hi | hu => rfl); (case hT => decide +kernel)) | ((with_reducible apply wps_load S 3); (case hx | hi | hu => rfl); (case hT => decide +kernel))
      go_ret
      exact ⟨ret_int (orL_zero fun q y hy => Hz.out q y (List.getElem?_eq_some_iff.1 hy).1 hy).symm, S.below⟩
end Go.Proofs.YtjmecncebdbhdaaDoor
/- The library's slices.SortFunc on a slice that is owned, as a step of the state. Over any program. -/
namespace Go.Proofs.YtjmecncebdbhdaaDoor.Mem
open Go Go.RowKit Reg Go.Shelf Go.Sort

/-- Blocks came, and answers were drawn: nothing else. -/
def Grew (w w' : World) : Prop := ∃ q os, w' = grow (w.drewN q) os
theorem heap_grow (w : World) (os : Array Obj) {b : Nat} (hb : b < w.heap.size) : (grow w os).heap[b]? = w.heap[b]? := by
  show (w.heap ++ os)[b]? = _
  rw [Array.getElem?_append_left hb]
theorem Grew.of_keep {w w' : World} (h : Keep (fun _ => False) w w') : Grew w w' := by
  refine ⟨w'.drawn - w.drawn, w'.heap.extract w.heap.size w'.heap.size, ?_⟩
  have hh : w'.heap = w.heap ++ w'.heap.extract w.heap.size w'.heap.size := by
    apply Array.ext_getElem?
    intro i
    by_cases hi : i < w.heap.size
    · rw [Array.getElem?_append_left hi, h.block i hi id]
    · rw [Array.getElem?_append_right (by omega), Array.getElem?_extract]
      have hs := h.size
      split
      · congr 1; omega
      · rw [Array.getElem?_eq_none (by omega)]
  have hd := h.drawn
  cases w; cases w'
  simp only [grow, World.drewN, World.mk.injEq]
  exact ⟨hh, h.tape, by simp only at hd ⊢; omega, h.os, h.output⟩
section
variable {α : Type} [Inhabited α]
theorem putCells_take {enc : α → Value} {d : Array α} {c : Array Value} (h : d.size ≤ c.size) : (putCells enc 0 d c).toList.take d.size = d.toList.map enc := by
  apply List.ext_getElem?
  intro i
  by_cases hi : i < d.size
  · rw [List.getElem?_take_of_lt hi, Array.getElem?_toList, List.getElem?_map, Array.getElem?_toList, Array.getElem?_eq_getElem hi]
    simp only [putCells, Array.getElem?_mapIdx, Array.getElem?_eq_getElem (show i < c.size by omega), Option.map_some, Nat.zero_le, Nat.zero_add, true_and, if_pos hi, Nat.sub_zero, getElem!_pos d i hi]
  · rw [List.getElem?_eq_none (by simp; omega), List.getElem?_eq_none (by simp; omega)]
theorem size_putCells {enc : α → Value} {d : Array α} {c : Array Value} {o : Nat} : (putCells enc o d c).size = c.size := by simp [putCells]
theorem heap_putRow {enc : α → Value} {w : World} {R m o : Nat} {d : Array α} {cur : Array Value} {E : TypeId} {fr : Nat × Nat} (os : Array Obj) (hR : w.heap[R]? = some (.cells cur E fr)) :
    (grow (putRow enc (Sort.ahead w m) R o d) os).heap[R]? = some (.cells (putCells enc o d cur) E fr) := by
  have hl := (Array.getElem?_eq_some_iff.1 hR).1
  rw [heap_grow _ _ (by rw [size_putRow]; exact hl)]
  show (w.heap.modify R (onCells (putCells enc o d)))[R]? = _
  rw [Array.getElem?_modify, if_pos rfl, hR]; rfl
theorem keep_putRow {enc : α → Value} {w : World} {R m o : Nat} {d : Array α} (os : Array Obj) : Keep (fun b => b = R) w (grow (putRow enc (Sort.ahead w m) R o d) os) := by
  refine ⟨rfl, rfl, rfl, ?_, fun b hb hn => ?_, Nat.le_add_right _ _⟩
  · show w.heap.size ≤ ((w.heap.modify R _) ++ os).size
    simp
  · rw [heap_grow _ _ (by rw [size_putRow]; exact hb)]
    show (w.heap.modify R _)[b]? = _
    rw [Array.getElem?_modify, if_neg (fun e => hn e.symm)]
theorem flatK_list {enc : α → List Value} {k : Nat} (hk : ∀ x, (enc x).length = k) (d : Array α) : (flatK enc k d).toList = flatE enc d.toList := by
  apply List.ext_getElem?
  intro i
  by_cases hi : i < d.size * k
  · have k0 : 0 < k := by rcases Nat.eq_zero_or_pos k with h | h; · subst h; simp at hi
                          · exact h
    have hj : i / k < d.size := (Nat.div_lt_iff_lt_mul k0).2 hi
    have e1 : (flatK enc k d).toList[i]? = some ((enc d[i / k]!)[i % k]!) := by
      rw [Array.getElem?_toList, Array.getElem?_eq_getElem (by simpa using hi), ← get_flatK enc k d i hi, getElem!_pos (flatK enc k d) i (by simpa using hi)]
    have e2 : i / k * k + i % k = i := by rw [Nat.mul_comm]; exact Nat.div_add_mod i k
    have hg := flatE_get (enc := enc) hk (xs := d.toList) (i := i / k) (x := d[i / k]) (by rw [Array.getElem?_toList, Array.getElem?_eq_getElem hj]) (i % k) (Nat.mod_lt _ k0)
    rw [e2] at hg
    rw [e1, hg, getElem!_pos d (i / k) hj, List.getElem?_eq_getElem (by rw [hk]; exact Nat.mod_lt _ k0), getElem!_pos (enc d[i / k]) (i % k) (by rw [hk]; exact Nat.mod_lt _ k0)]
  · rw [List.getElem?_eq_none (by simp; omega), List.getElem?_eq_none (by rw [flatE_length hk]; simp; omega)]
theorem perm_list {d d' : Array α} (h : PermIn 0 d.size d d') : d'.toList.Perm d.toList := by
  obtain ⟨hs, _, hp⟩ := h
  simp [← hs] at hp
  rwa [List.take_of_length_le (by simp [hs])] at hp
theorem sorted_list {lt : α → α → Bool} {d d' : Array α} (hs : d'.size = d.size) (h : SortedIn lt 0 d.size d') : d'.toList.Pairwise (fun a b => lt b a = false) := by
  rw [List.pairwise_iff_getElem]
  intro i j hi hj hij
  simp only [Array.length_toList] at hi hj
  have := h i j (Nat.zero_le _) hij (by omega)
  rwa [getElem!_pos d' i hi, getElem!_pos d' j hj] at this
end

section
variable {P : Program} {ρ : Ren} {α : Type} [Inhabited α] {E : TypeId} {enc : α → List Value} {k : Nat} {G : Nat → Prop} {w0 w : World} {L : List Asn} {i : Nat}
/-- A slice of structs, sorted. -/
theorem sortK (Ly : SlLaysF0.n6 P ρ) (aE : ∀ w, (isAgg (ρ.t 24)).run P w = .ok true w) (zE : ∀ w, (Go.sizeOf (ρ.t 24)).run P w = .ok k w) (hk : ∀ x, (enc x).length = k) (h1 : ∀ x, ∀ v ∈ enc x, v.oneCell' = true) (cf : α → α → Int) (hO : SWO (ltOf cf))
    (g : Nat) (cb : Array Value) (eg : ∀ args w, (callFunc g args).run P w = .ok (.enter g args) w) {R n c : Nat} {xs : List α} (S : St G w0 w L) (hi : L[i]? = some (Own E enc k (.slice (some ⟨R, 0, none⟩) n c) xs)) (hn : xs.length < 4611686018427387904)
    (hcmp : ∀ W, Keep (fun b => b = R) w W → ∀ x y : α, Calls P g (#[.agg (enc x).toArray, .agg (enc y).toArray] ++ cb) W fun e w' => e = .returned (.int .i64 (cf x y)) ∧ Grew W w') :
    Calls P (ρ.f 6) #[.slice (some ⟨R, 0, none⟩) n c, .func (.func g) #[] cb] w fun e w' => e = .returned (.tuple #[]) ∧ ∃ ys : List α, ys.Perm xs ∧ ys.Pairwise (fun a b => ltOf cf b a = false) ∧ St G w0 w' (L.set i (Own E enc k (.slice (some ⟨R, 0, none⟩) n c) ys)) := by
  obtain ⟨F0, hF0⟩ := S.get hi
  obtain ⟨hlen, hown⟩ := hF0.1
  rcases hown with ⟨e, _⟩ | ⟨g', cap, cur, e, _, hg, hnc, hcm, hcs, htake⟩
  · simp at e
  · simp only [Value.slice.injEq, Option.some.injEq, Addr.mk.injEq] at e
    obtain ⟨⟨rfl, _, _⟩, rfl, rfl⟩ := e
    have hRl := (Array.getElem?_eq_some_iff.1 hg).1
    have hcells := World.ownsRow.cells (show w.ownsRow 0 E k _ _ _ from hF0.1) (g := R) rfl
    have hfl : (flatK enc k xs.toArray).toList = flatE enc xs := by rw [flatK_list hk]
    have hH : HoldsK enc k w R 0 xs.toArray := fun j hj => by
      have hj' : j < (flatE enc xs).length := by rw [← hfl]; simpa using hj
      refine ⟨?_, by rw [Nat.zero_add]; exact frozen_of hg j⟩
      have := hcells j (flatE enc xs)[j] (List.getElem?_eq_getElem hj')
      rw [add_none] at this
      rw [this]
      congr 1
      have e1 : (flatK enc k xs.toArray)[j]! = (flatE enc xs)[j] := by
        rw [getElem!_pos _ j hj, ← Array.getElem_toList]
        simp only [hfl]
      exact e1.symm
    have key := AnyQ.slices_SortFunc Ly k aE zE enc hk h1 cf hO g cb R 0 c xs.toArray w eg (fun m os dk hd x y => (hcmp _ (keep_putRow os) x y).mono fun _ _ ⟨he, q, os', hw⟩ => ⟨he, q, os', hw⟩) hH hRl (by simpa using hn)
    simp only [List.size_toArray] at key
    refine key.mono ?_
    rintro e w' ⟨rfl, d', m, os, hp, hs, rfl⟩
    have hds : d'.size = xs.length := by simpa using hp.1
    refine ⟨rfl, d'.toList, by simpa using perm_list (d := xs.toArray) (by simpa using hp), sorted_list (d := xs.toArray) (by simpa using hds) (by simpa using hs), S.step hi rfl fun F hF => ⟨F, (keep_putRow os).mono (fun x _ h e => h ((hF.2 x).2 (by simp [Value.ownBlock, e]))), ⟨?_, hF.2⟩, fun x h => .inl h⟩⟩
    have hsz : (flatK enc k d').size = xs.length * k := by simp [hds]
    have hcs' : xs.length * k ≤ cur.size := by rw [hcs]; exact Nat.mul_le_mul_right k hnc
    have hll : d'.toList.length = xs.length := by simpa using hds
    refine ⟨by rw [flatE_length hk], .inr ⟨R, c, putCells id 0 (flatK enc k d') cur, by rw [hll], Nat.zero_le _, heap_putRow os hg, by rw [hll]; exact hnc, hcm, by rw [size_putCells]; exact hcs, ?_⟩⟩
    have := putCells_take (enc := id) (d := flatK enc k d') (c := cur) (by rw [hsz]; exact hcs')
    rw [hsz, List.map_id, flatK_list hk] at this
    rw [hll]; exact this
end
end Go.Proofs.YtjmecncebdbhdaaDoor.Mem
/- The walks of the reference's Word, Kinds, Number. -/
namespace Go.Proofs.YtjmecncebdbhdaaDoor
open Go Go.RowKit Reg Mem

def strE (s : ByteArray) : List Value := [.string s]
theorem strE_len : ∀ s, (strE s).length = 1 := fun _ => rfl
def wordsL : List ByteArray := [bytes [115, 101, 116], bytes [109, 111, 118, 101], bytes [97, 100, 100], bytes [115, 117, 98], bytes [109, 117, 108], bytes [109, 111, 100], bytes [108, 101, 115, 115], bytes [106, 117, 109, 112], bytes [122, 101, 114, 111], bytes [110, 111, 119], bytes [107, 105, 110, 100], bytes [100, 97, 116, 97], bytes [115, 101, 108, 102], bytes [115, 101, 110, 100], bytes [115, 116, 111, 112]]
def kindsL : List ByteArray := [bytes [99, 110], bytes [99, 99], bytes [99, 99, 99], bytes [99, 99, 99], bytes [99, 99, 99], bytes [99, 99, 99], bytes [99, 99, 99], bytes [112], bytes [99, 112], bytes [99], bytes [99], bytes [99], bytes [99], bytes [99, 99, 99, 107], bytes []]
set_option maxRecDepth 100000 in
theorem rword_calls (n : Nat) (s : ByteArray) (hs : wordsL[n]? = some s) (w : World) : Calls Tryd.prog 90 #[.int .i64 ((n : Int) + 1)] w fun r w' => r = .returned (.string s) ∧ Below w.heap.size w w' := by
  have S := St.init (fun _ => False) w
  have hn : n < 15 := (List.getElem?_eq_some_iff.1 hs).1
  have hn1 : (n : Int) < 15 := by omega
  have Hs := Lib.hid hs
  clear hs
  go_enter Tryd.func90, Tryd.ntmps90
  go_upto_region 4 with first | ((with_reducible apply wps_buildSlice (T := 178) (E := 9) (cs := #[.string (bytes [115, 101, 116]), .string (bytes [109, 111, 118, 101]), .string (bytes [97, 100, 100]), .string (bytes [115, 117, 98]), .string (bytes [109, 117, 108]), .string (bytes [109, 111, 100]), .string (bytes [108, 101, 115, 115]), .string (bytes [106, 117, 109, 112]), .string (bytes [122, 101, 114, 111]), .string (bytes [110, 111, 119]), .string (bytes [107, 105, 110, 100]), .string (bytes [100, 97, 116, 97]), .string (bytes [115, 101, 108, 102]), .string (bytes [115, 101, 110, 100]), .string (bytes [115, 116, 111, 112])]) S); (case hr => intro w; kernel_rfl); clear S; intro bz wz S)
  replace S := S.weak (i := 0) (A' := Sl true strE 1 (.slice (some ⟨bz, 0, none⟩) 15 15) wordsL) rfl (fun e => by cases e) (fun F h => ⟨F, fun _ hb => hb, blk_sl wordsL strE_len h rfl rfl⟩)
  simp only [List.set_cons_zero] at S
  go_wp2_with first | go_skip | ((with_reducible refine wpList_skip ?hw ?_); (case hw => with_unfolding_all rfl); simp only [Act.put, List.setIfInBounds_toArray, List.set_cons_succ, List.set_cons_zero]) | ((with_reducible apply wps_load_el S 0 (hj := Hs.out) (q := 0) (u := (.string s))); (case hx | hi => rfl); (case hn => omega); (case hu => rfl); (case hT => decide +kernel)) | ((with_reducible refine tot_done ?ht ?_); (case ht => kernel_rfl)) | ((with_reducible apply wps_load S 0); (case hx | hi | hu => rfl); (case hT => decide +kernel))
  go_ret
  exact ⟨by simp, S.below⟩
set_option maxRecDepth 100000 in
theorem rword_not (op : Int) (h : ¬ (1 ≤ op ∧ op ≤ 15)) (w : World) : Calls Tryd.prog 90 #[.int .i64 op] w fun r w' => r = .returned (.string ⟨#[]⟩) ∧ Below w.heap.size w w' := by
  have S := St.init (fun _ => False) w
  by_cases h1 : op < 1
  · go_enter Tryd.func90, Tryd.ntmps90
    go_wp2_with first | go_skip | ((with_reducible refine wpList_skip ?hw ?_); (case hw => with_unfolding_all rfl); simp only [Act.put, List.setIfInBounds_toArray, List.set_cons_succ, List.set_cons_zero]) | ((with_reducible refine tot_done ?ht ?_); (case ht => kernel_rfl)) | ((with_reducible apply wps_load S 0); (case hx | hi | hu => rfl); (case hT => decide +kernel))
    go_ret
    exact ⟨by simp, S.below⟩
  · have h2 : 15 < op := by omega
    go_enter Tryd.func90, Tryd.ntmps90
    go_wp2_with first | go_skip | ((with_reducible refine wpList_skip ?hw ?_); (case hw => with_unfolding_all rfl); simp only [Act.put, List.setIfInBounds_toArray, List.set_cons_succ, List.set_cons_zero]) | ((with_reducible refine tot_done ?ht ?_); (case ht => kernel_rfl)) | ((with_reducible apply wps_load S 0); (case hx | hi | hu => rfl); (case hT => decide +kernel))
    go_ret
    exact ⟨by simp, S.below⟩
set_option maxRecDepth 100000 in
theorem rkinds_calls (n : Nat) (s : ByteArray) (hs : kindsL[n]? = some s) (w : World) : Calls Tryd.prog 91 #[.int .i64 ((n : Int) + 1)] w fun r w' => r = .returned (.string s) ∧ Below w.heap.size w w' := by
  have S := St.init (fun _ => False) w
  have hn : n < 15 := (List.getElem?_eq_some_iff.1 hs).1
  have hn1 : (n : Int) < 15 := by omega
  have Hs := Lib.hid hs
  clear hs
  go_enter Tryd.func91, Tryd.ntmps91
  go_upto_region 4 with first | ((with_reducible apply wps_buildSlice (T := 178) (E := 9) (cs := #[.string (bytes [99, 110]), .string (bytes [99, 99]), .string (bytes [99, 99, 99]), .string (bytes [99, 99, 99]), .string (bytes [99, 99, 99]), .string (bytes [99, 99, 99]), .string (bytes [99, 99, 99]), .string (bytes [112]), .string (bytes [99, 112]), .string (bytes [99]), .string (bytes [99]), .string (bytes [99]), .string (bytes [99]), .string (bytes [99, 99, 99, 107]), .string (bytes [])]) S); (case hr => intro w; kernel_rfl); clear S; intro bz wz S)
  replace S := S.weak (i := 0) (A' := Sl true strE 1 (.slice (some ⟨bz, 0, none⟩) 15 15) kindsL) rfl (fun e => by cases e) (fun F h => ⟨F, fun _ hb => hb, blk_sl kindsL strE_len h rfl rfl⟩)
  simp only [List.set_cons_zero] at S
  go_wp2_with first | go_skip | ((with_reducible refine wpList_skip ?hw ?_); (case hw => with_unfolding_all rfl); simp only [Act.put, List.setIfInBounds_toArray, List.set_cons_succ, List.set_cons_zero]) | ((with_reducible apply wps_load_el S 0 (hj := Hs.out) (q := 0) (u := (.string s))); (case hx | hi => rfl); (case hn => omega); (case hu => rfl); (case hT => decide +kernel)) | ((with_reducible refine tot_done ?ht ?_); (case ht => kernel_rfl)) | ((with_reducible apply wps_load S 0); (case hx | hi | hu => rfl); (case hT => decide +kernel))
  go_ret
  exact ⟨by simp, S.below⟩
/-- The number at a place. -/
def numb (x : Instr) : Nat → Int
  | 0 => x.a
  | 1 => x.b
  | 2 => x.c
  | _ => x.d
def ask (s : State) : Nat → Int
  | 0 => s.n0
  | 1 => s.n1
  | 2 => s.n2
  | _ => s.n3
set_option maxRecDepth 100000 in
theorem rnumber_calls (x : Instr) (j : Nat) (hj : j < 4) (w : World) : Calls Tryd.prog 92 #[.agg #[.int .i64 x.op, .int .i64 x.a, .int .i64 x.b, .int .i64 x.c, .int .i64 x.d], .int .i64 j] w fun r w' => r = .returned (.int .i64 (numb x j)) ∧ Below w.heap.size w w' := by
  have S := St.init (fun _ => False) w
  obtain rfl | rfl | rfl | rfl : j = 0 ∨ j = 1 ∨ j = 2 ∨ j = 3 := by omega
  all_goals
    go_enter Tryd.func92, Tryd.ntmps92
    go_wp2_with first | ((with_reducible refine tot_done ?ht ?_); (case ht => kernel_rfl)) | ((with_reducible apply wps_boxa S); (case hx => rfl); clear S; intro bz wz S) | ((with_reducible apply wps_box1 (v := .int _ _) S); (case hx | h1 => rfl); clear S; intro bz wz S) | ((with_reducible apply wps_box1 (v := .bool _) S); (case hx | h1 => rfl); clear S; intro bz wz S) | ((with_reducible apply wps_box1 (v := .slice _ _ _) S); (case hx | h1 => rfl); clear S; intro bz wz S) | ((with_reducible apply wps_box1 (v := .pointer _) S); (case hx | h1 => rfl); clear S; intro bz wz S) | ((with_reducible apply wps_box1 (v := .map _) S); (case hx | h1 => rfl); clear S; intro bz wz S) | ((with_reducible apply wps_box1 (v := .string _) S); (case hx | h1 => rfl); clear S; intro bz wz S) | ((with_reducible apply wps_box1 (v := .func _ _ _) S); (case hx | h1 => rfl); clear S; intro bz wz S) | ((with_reducible apply wps_load S 0); (case hx | hi | hu => rfl); (case hT => decide +kernel))
    go_ret
    exact ⟨by simp [numb], S.below⟩
end Go.Proofs.YtjmecncebdbhdaaDoor

import Derived.Test.YtcbdacmdmaoegaaStabP
import Derived.Test.YtcbdacmdmaoegaaSt2
/- The walks of slices.SortStableFunc's parts: swapRange and rotate. -/
namespace Go.Proofs.Ytcbdacmdmaoegaa
open Go Go.RowKit Reg Mem

def tcells (x : TE) : List Value := x.1.cells
theorem tlen : ∀ x : TE, (tcells x).length = 7 := fun _ => rfl
theorem tone : ∀ x : TE, ∀ u ∈ tcells x, u.oneCell' = true := fun _ => by simp [tcells, Event.cells, Value.oneCell']
set_option maxRecDepth 100000 in
theorem elem_Te : Elem Try.prog 22 30 7 56 := ⟨_, .agg #[.int .i64 0, .int .i64 0, .int .i64 0, .int .i64 0, .int .i64 0, .int .i64 0, .int .i64 0], Try.underlying22, rfl, by kernel_rfl, by kernel_rfl, by kernel_rfl, by kernel_rfl, by omega⟩
theorem get_mid {α : Type} {p q : List α} {x : α} {k : Nat} (h : k = p.length) : (p ++ x :: q)[k]? = some x := by subst h; simp
theorem set_mid {α : Type} {p q : List α} {x y : α} {k : Nat} (h : k = p.length) : (p ++ x :: q).set k y = p ++ y :: q := by subst h; simp
def SwRel (F : Nat → Prop) (R c N : Nat) (p u md v q : List TE) (w : World) (i : Value) (wr : World) : Prop :=
  ∃ (k : Nat), k ≤ u.length ∧ i = .int .i64 k ∧ St F w wr [Own 30 tcells 7 (.slice (some ⟨R, 0, none⟩) N c) (p ++ v.take k ++ (u.drop k ++ md ++ u.take k) ++ (v.drop k ++ q))]
set_option maxRecDepth 100000 in
set_option maxHeartbeats 4000000 in
theorem swapRange_calls (R c N a b n : Nat) (p u md v q : List TE) (cv : Value) (w : World) (F : Nat → Prop) (h : (Own 30 tcells 7 (.slice (some ⟨R, 0, none⟩) N c) (p ++ u ++ md ++ v ++ q)).at_ w F)
    (hN : N = (p ++ u ++ md ++ v ++ q).length) (ha : a = p.length) (hu : u.length = n) (hv : v.length = n) (hb : b = p.length + u.length + md.length) (hn : N ≤ 65536) :
    Calls Try.prog 92 #[.slice (some ⟨R, 0, none⟩) N c, .int .i64 a, .int .i64 b, .int .i64 n, cv] w fun e w' => e = .returned (.tuple #[]) ∧ St F w w' [Own 30 tcells 7 (.slice (some ⟨R, 0, none⟩) N c) (p ++ v ++ md ++ u ++ q)] := by
  have S := St.one w h
  clear h
  have hN' : N = p.length + n + md.length + n + q.length := by rw [hN]; simp; omega
  have Hu := Lib.hid hu
  have Hv := Lib.hid hv
  have Ha := Lib.hid ha
  have Hb := Lib.hid hb
  have g1 : a + n ≤ b := by omega
  have g2 : b + n ≤ N := by omega
  clear hu hv ha hb hN hN'
  go_enter Try.func92, Try.ntmps92
  go_wp2_with first
    | ((with_reducible refine tot_done ?ht ?_); (case ht => kernel_rfl))
    | ((with_reducible apply wps_text S); (case hm => kernel_rfl); (case hB => decide +kernel); clear S; intro wz S)
    | ((with_reducible apply wps_loada (T := 30) (k := 7) S 0); (case hx => rfl); (case hi => rfl); (case hT => decide +kernel); (case hk => exact Nat.le_of_ble_eq_true rfl))
    | ((with_reducible apply wps_loada (T := 30) (k := 7) S 1); (case hx => rfl); (case hi => rfl); (case hT => decide +kernel); (case hk => exact Nat.le_of_ble_eq_true rfl))
    | ((with_reducible apply wps_loada (T := 30) (k := 7) S 2); (case hx => rfl); (case hi => rfl); (case hT => decide +kernel); (case hk => exact Nat.le_of_ble_eq_true rfl))
    | ((with_reducible apply wps_loada (T := 30) (k := 7) S 3); (case hx => rfl); (case hi => rfl); (case hT => decide +kernel); (case hk => exact Nat.le_of_ble_eq_true rfl))
  go_loopw [10] (fun i wr => SwRel F R c N p u md v q w i wr) (fun i _ => n - (intOf i).toNat)
  case atStart => exact ⟨0, Nat.zero_le _, rfl, by simpa using S⟩
  case round =>
    clear S
    obtain ⟨k, hk, rfl, S⟩ := hrel
    have Hk := Lib.hid hk
    clear hk
    by_cases hlt : k < n
    · obtain ⟨x, hx⟩ : ∃ x, u[k]? = some x := ⟨_, List.getElem?_eq_getElem (by have := Hu.out; omega)⟩
      obtain ⟨y, hy⟩ : ∃ y, v[k]? = some y := ⟨_, List.getElem?_eq_getElem (by have := Hv.out; omega)⟩
      have hud : u.drop k = x :: u.drop (k + 1) := by obtain ⟨h1, rfl⟩ := List.getElem?_eq_some_iff.1 hx; exact List.drop_eq_getElem_cons h1
      have hvd : v.drop k = y :: v.drop (k + 1) := by obtain ⟨h1, rfl⟩ := List.getElem?_eq_some_iff.1 hy; exact List.drop_eq_getElem_cons h1
      have hut : u.take (k + 1) = u.take k ++ [x] := by rw [List.take_add_one, hx]; rfl
      have hvt : v.take (k + 1) = v.take k ++ [y] := by rw [List.take_add_one, hy]; rfl
      have l1 : (u.take k).length = k := by simp; have := Hu.out; omega
      have l2 : (v.take k).length = k := by simp; have := Hv.out; omega
      have l3 : (u.drop (k + 1)).length = n - (k + 1) := by simp; have := Hu.out; omega
      have HX : Hid ((p ++ v.take k ++ (u.drop k ++ md ++ u.take k) ++ (v.drop k ++ q))[a + k]? = some x) := by
        rw [hud]; have := get_mid (p := p ++ v.take k) (q := u.drop (k + 1) ++ md ++ u.take k ++ (v.drop k ++ q)) (x := x) (k := a + k) (by simp [l2]; exact Ha.out)
        simp only [List.append_assoc, List.cons_append] at *; exact this
      have HY : Hid ((p ++ v.take k ++ (u.drop k ++ md ++ u.take k) ++ (v.drop k ++ q))[b + k]? = some y) := by
        rw [hvd]
        have e : b + k = (p ++ v.take k ++ (u.drop k ++ md ++ u.take k)).length := by simp [l1, l2]; have := Hb.out; have := Hu.out; omega
        rw [e, List.cons_append]; exact get_mid rfl
      have HS : Hid (((p ++ v.take k ++ (u.drop k ++ md ++ u.take k) ++ (v.drop k ++ q)).set (a + k) y).set (b + k) x = p ++ v.take (k + 1) ++ (u.drop (k + 1) ++ md ++ u.take (k + 1)) ++ (v.drop (k + 1) ++ q)) := by
        rw [hut, hvt, hud, hvd]
        have e1 := set_mid (p := p ++ v.take k) (q := u.drop (k + 1) ++ md ++ u.take k ++ (y :: v.drop (k + 1) ++ q)) (x := x) (y := y) (k := a + k) (by simp [l2]; exact Ha.out)
        have e2 := set_mid (p := p ++ v.take k ++ y :: (u.drop (k + 1) ++ md ++ u.take k)) (q := v.drop (k + 1) ++ q) (x := y) (y := x) (k := b + k) (by simp [l1, l2, l3]; have := Hb.out; have := Hu.out; omega)
        simp only [List.append_assoc, List.cons_append, List.nil_append] at *
        rw [e1, e2]; rfl
      have HY2 : Hid (((p ++ v.take k ++ (u.drop k ++ md ++ u.take k) ++ (v.drop k ++ q)).set (a + k) y)[b + k]? = some y) := by
        rw [List.getElem?_set_ne (by omega)]; exact HY.out
      generalize p ++ v.take k ++ (u.drop k ++ md ++ u.take k) ++ (v.drop k ++ q) = cur at *
      obtain ⟨nxt, HN⟩ : ∃ nxt, Hid (p ++ v.take (k + 1) ++ (u.drop (k + 1) ++ md ++ u.take (k + 1)) ++ (v.drop (k + 1) ++ q) = nxt) := ⟨_, rfl⟩
      rw [HN.out] at HS
      clear hx hy hud hvd hut hvt l1 l2 l3
      go_wp2_with first
        | ((with_reducible apply wps_loada_own tlen S 0 (hj := HX.out) (q := 0) (vs := [.int .i64 x.1.key.at_, .int .i64 x.1.key.src, .int .i64 x.1.key.sent, .int .i64 x.1.key.no, .int .i64 x.1.dst, .int .i64 x.1.kind, .int .i64 x.1.data]) (m := 7)); (case hx => rfl); (case hT => decide +kernel); (case hi => rfl); (case hn => omega); (case hm => rfl); (case hv => rfl))
        | ((with_reducible apply wps_loada_own tlen S 0 (hj := HY.out) (q := 0) (vs := [.int .i64 y.1.key.at_, .int .i64 y.1.key.src, .int .i64 y.1.key.sent, .int .i64 y.1.key.no, .int .i64 y.1.dst, .int .i64 y.1.kind, .int .i64 y.1.data]) (m := 7)); (case hx => rfl); (case hT => decide +kernel); (case hi => rfl); (case hn => omega); (case hm => rfl); (case hv => rfl))
        | ((with_reducible apply wps_store_owna tlen S 0 (hj := HX.out) (e' := y) (q := 0) (vs := [.int .i64 y.1.key.at_, .int .i64 y.1.key.src, .int .i64 y.1.key.sent, .int .i64 y.1.key.no, .int .i64 y.1.dst, .int .i64 y.1.kind, .int .i64 y.1.data]) (m := 7)); (case hx => rfl); (case hn => omega); (case hi => rfl); (case hy => rfl); (case hT => decide +kernel); (case hm => rfl); (case h1 => rfl); (case he => rfl); (case hq => exact Nat.le_of_ble_eq_true rfl); clear S; intro wz S; simp only [List.set_cons_zero] at S)
        | ((with_reducible apply wps_store_owna tlen S 0 (hj := HY2.out) (e' := x) (q := 0) (vs := [.int .i64 x.1.key.at_, .int .i64 x.1.key.src, .int .i64 x.1.key.sent, .int .i64 x.1.key.no, .int .i64 x.1.dst, .int .i64 x.1.kind, .int .i64 x.1.data]) (m := 7)); (case hx => rfl); (case hn => omega); (case hi => rfl); (case hy => rfl); (case hT => decide +kernel); (case hm => rfl); (case h1 => rfl); (case he => rfl); (case hq => exact Nat.le_of_ble_eq_true rfl); clear S; intro wz S; simp only [List.set_cons_zero] at S)
        | ((with_reducible refine tot_done ?ht ?_); (case ht => kernel_rfl))
        | ((with_reducible apply wps_text S); (case hm => kernel_rfl); (case hB => decide +kernel); clear S; intro wz S)
        | ((with_reducible apply wps_loada (T := 30) (k := 7) S 0); (case hx => rfl); (case hi => rfl); (case hT => decide +kernel); (case hk => exact Nat.le_of_ble_eq_true rfl))
        | ((with_reducible apply wps_loada (T := 30) (k := 7) S 1); (case hx => rfl); (case hi => rfl); (case hT => decide +kernel); (case hk => exact Nat.le_of_ble_eq_true rfl))
        | ((with_reducible apply wps_loada (T := 30) (k := 7) S 2); (case hx => rfl); (case hi => rfl); (case hT => decide +kernel); (case hk => exact Nat.le_of_ble_eq_true rfl))
        | ((with_reducible apply wps_loada (T := 30) (k := 7) S 3); (case hx => rfl); (case hi => rfl); (case hT => decide +kernel); (case hk => exact Nat.le_of_ble_eq_true rfl))
      rw [HS.out] at S
      go_roundw
      case rel => exact ⟨k + 1, by have := Hu.out; omega, by go_num, by rw [HN.out]; exact S⟩
      case measure => simp [intOf]; omega
    · have hkn : k = n := by have := Hk.out; have := Hu.out; omega
      have HE : Hid (p ++ v.take k ++ (u.drop k ++ md ++ u.take k) ++ (v.drop k ++ q) = p ++ v ++ md ++ u ++ q) := by
        rw [List.take_of_length_le (by have := Hv.out; omega), List.drop_eq_nil_of_le (by have := Hu.out; omega), List.take_of_length_le (by have := Hu.out; omega), List.drop_eq_nil_of_le (by have := Hv.out; omega)]
        simp [Hid]
      rw [HE.out] at S
      clear hkn HE
      go_wp2_with first
        | ((with_reducible refine tot_done ?ht ?_); (case ht => kernel_rfl))
        | ((with_reducible apply wps_text S); (case hm => kernel_rfl); (case hB => decide +kernel); clear S; intro wz S)
        | ((with_reducible apply wps_loada (T := 30) (k := 7) S 0); (case hx => rfl); (case hi => rfl); (case hT => decide +kernel); (case hk => exact Nat.le_of_ble_eq_true rfl))
        | ((with_reducible apply wps_loada (T := 30) (k := 7) S 1); (case hx => rfl); (case hi => rfl); (case hT => decide +kernel); (case hk => exact Nat.le_of_ble_eq_true rfl))
        | ((with_reducible apply wps_loada (T := 30) (k := 7) S 2); (case hx => rfl); (case hi => rfl); (case hT => decide +kernel); (case hk => exact Nat.le_of_ble_eq_true rfl))
        | ((with_reducible apply wps_loada (T := 30) (k := 7) S 3); (case hx => rfl); (case hi => rfl); (case hT => decide +kernel); (case hk => exact Nat.le_of_ble_eq_true rfl))
      go_end0
      exact ⟨rfl, S⟩
theorem swapRange_int (R c N : Nat) (a b n : Int) (p u md v q : List TE) (cv : Value) (w : World) (F : Nat → Prop) (h : (Own 30 tcells 7 (.slice (some ⟨R, 0, none⟩) N c) (p ++ u ++ md ++ v ++ q)).at_ w F)
    (hN : N = (p ++ u ++ md ++ v ++ q).length) (ha : a = p.length) (hu : (u.length : Int) = n) (hv : (v.length : Int) = n) (hb : b = p.length + u.length + md.length) (hn : N ≤ 65536) :
    Calls Try.prog 92 #[.slice (some ⟨R, 0, none⟩) N c, .int .i64 a, .int .i64 b, .int .i64 n, cv] w fun e w' => e = .returned (.tuple #[]) ∧ St F w w' [Own 30 tcells 7 (.slice (some ⟨R, 0, none⟩) N c) (p ++ v ++ md ++ u ++ q)] := by
  have e1 : a = ((p.length : Nat) : Int) := ha
  have e2 : b = ((p.length + u.length + md.length : Nat) : Int) := by omega
  have e3 : n = ((u.length : Nat) : Int) := by omega
  rw [e1, e2, e3]
  exact swapRange_calls R c N _ _ _ p u md v q cv w F h hN rfl rfl (by omega) rfl hn
structure RotAt (m i j : Nat) (T p u v q : List TE) : Prop where
  hm : p.length + u.length = m
  hi : u.length = i
  hj : v.length = j
  hT : p ++ v ++ u ++ q = T
def RotRel (F : Nat → Prop) (R c N m : Nat) (T : List TE) (w : World) (iv jv : Value) (wr : World) : Prop :=
  ∃ (i j : Nat) (p u v q : List TE), 0 < i ∧ 0 < j ∧ i ≤ m ∧ m + j ≤ N ∧ iv = .int .i64 i ∧ jv = .int .i64 j ∧ RotAt m i j T p u v q ∧ N = (p ++ u ++ v ++ q).length ∧ St F w wr [Own 30 tcells 7 (.slice (some ⟨R, 0, none⟩) N c) (p ++ u ++ v ++ q)]
theorem rot_more {m i j : Nat} {T p u v q : List TE} (h : RotAt m i j T p u v q) (hij : j < i) : u.take j ++ u.drop j = u ∧ (u.take j).length = j ∧ RotAt m (i - j) j T (p ++ v) (u.drop j) (u.take j) q := by
  obtain ⟨hm, hi, hj, hT⟩ := h
  have e := List.take_append_drop j u
  refine ⟨e, by simp; omega, by simp; omega, by simp; omega, by simp; omega, ?_⟩
  rw [← hT]; conv => rhs; rw [← e]
  simp
theorem rot_less {m i j : Nat} {T p u v q : List TE} (h : RotAt m i j T p u v q) (hij : i < j) : v.take (j - i) ++ v.drop (j - i) = v ∧ (v.drop (j - i)).length = i ∧ RotAt m i (j - i) T p (v.drop (j - i)) (v.take (j - i)) (u ++ q) := by
  obtain ⟨hm, hi, hj, hT⟩ := h
  have e := List.take_append_drop (j - i) v
  refine ⟨e, by simp; omega, by simp; omega, by simp; omega, by simp; omega, ?_⟩
  rw [← hT]; conv => rhs; rw [← e]
  simp
set_option maxRecDepth 100000 in
set_option maxHeartbeats 4000000 in
theorem rotate_calls (R c N a m b : Nat) (p u v q : List TE) (cv : Value) (w : World) (F : Nat → Prop) (h : (Own 30 tcells 7 (.slice (some ⟨R, 0, none⟩) N c) (p ++ u ++ v ++ q)).at_ w F)
    (hN : N = (p ++ u ++ v ++ q).length) (ha : a = p.length) (hm : m = a + u.length) (hb : b = m + v.length) (h1 : 0 < u.length) (h2 : 0 < v.length) (hn : N ≤ 65536) :
    Calls Try.prog 78 #[.slice (some ⟨R, 0, none⟩) N c, .int .i64 a, .int .i64 m, .int .i64 b, cv] w fun e w' => e = .returned (.tuple #[]) ∧ St F w w' [Own 30 tcells 7 (.slice (some ⟨R, 0, none⟩) N c) (p ++ v ++ u ++ q)] := by
  have S := St.one w h
  clear h
  have g1 : a < m := by omega
  have g2 : m < b := by omega
  have g3 : b ≤ N := by rw [hN]; simp; omega
  have HR : Hid (RotAt m (m - a) (b - m) (p ++ v ++ u ++ q) p u v q) := ⟨by omega, by omega, by omega, rfl⟩
  have HN := Lib.hid hN
  clear hN ha hm hb h1 h2
  generalize p ++ v ++ u ++ q = T at *
  go_enter Try.func78, Try.ntmps78
  go_wp2_with first
    | ((with_reducible refine tot_done ?ht ?_); (case ht => kernel_rfl))
  go_loopw [10, 11] (fun i j wr => RotRel F R c N m T w i j wr) (fun i j _ => ((intOf i) + (intOf j)).toNat)
  case atStart => exact ⟨m - a, b - m, p, u, v, q, by omega, by omega, by omega, by omega, by congr 1; omega, by congr 1; omega, HR.out, HN.out, S⟩
  case round =>
    clear S HR HN
    obtain ⟨i, j, p, u, v, q, hi, hj, him, hjm, rfl, rfl, hR, hN, S⟩ := hrel
    have HR := Lib.hid hR
    have HN := Lib.hid hN
    clear hR hN
    by_cases hlt : j < i
    · have hne : ((i : Int) != (j : Int)) = true := by simp; omega
      have hgt : (j : Int) < i := by omega
      have HM := Lib.hid (rot_more HR.out hlt)
      rw [← HM.out.1] at S
      rw [← HM.out.1] at HN
      have HE : Hid (p ++ (u.take j ++ u.drop j) ++ v ++ q = p ++ u.take j ++ u.drop j ++ v ++ q) := by simp [Hid]
      rw [HE.out] at S
      rw [HE.out] at HN
      have hpu := HR.out.hm
      have hpi := HR.out.hi
      have hpj := HR.out.hj
      have l1 := HM.out.2.1
      have l2 : (u.drop j).length = i - j := by simp; omega
      have Hpu := Lib.hid hpu
      have Hpi := Lib.hid hpi
      have Hpj := Lib.hid hpj
      have L1 := Lib.hid l1
      have L2 := Lib.hid l2
      clear hpu hpi hpj l1 l2
      go_wp2_with first
        | (go_at_call 92; obtain ⟨Fz, hF, hBk⟩ := S.lend1 0 rfl rfl; refine Calls.mono (swapRange_int _ _ _ _ _ _ p (u.take j) (u.drop j) v q _ _ _ hF HN.out (by have := Hpu.out; have := Hpi.out; omega) (by have := L1.out; omega) (by have := Hpj.out; omega) (by have := L1.out; have := L2.out; have := Hpu.out; have := Hpi.out; omega) hn) ?_; rintro e wz ⟨rfl, T⟩; replace S := hBk _ _ rfl T; clear hBk hF T; simp only [List.set_cons_zero] at S)
        | ((with_reducible refine tot_done ?ht ?_); (case ht => kernel_rfl))
      have HE2 : Hid (p ++ v ++ u.drop j ++ u.take j ++ q = (p ++ v) ++ u.drop j ++ u.take j ++ q) := rfl
      go_roundw
      case rel => exact ⟨i - j, j, p ++ v, u.drop j, u.take j, q, by omega, hj, by omega, by omega, by congr 1; omega, rfl, HM.out.2.2, by rw [HN.out]; simp; omega, S⟩
      case measure => simp [intOf]; omega
    · by_cases heq : i = j
      · have hne : ((i : Int) != (j : Int)) = false := by simp [heq]
        have hpu := HR.out.hm
        have hpi := HR.out.hi
        have hpj := HR.out.hj
        have hpT := HR.out.hT
        have HE : Hid (p ++ u ++ v ++ q = p ++ u ++ [] ++ v ++ q) := by simp [Hid]
        rw [HE.out] at S
        rw [HE.out] at HN
        have HE2 : Hid (p ++ v ++ [] ++ u ++ q = T) := by simpa [Hid] using hpT
        have Hpu := Lib.hid hpu
        have Hpi := Lib.hid hpi
        have Hpj := Lib.hid hpj
        have Heq := Lib.hid heq
        have HpT := Lib.hid hpT
        clear hpu hpi hpj heq hpT
        go_wp2_with first
          | (go_at_call 92; obtain ⟨Fz, hF, hBk⟩ := S.lend1 0 rfl rfl; refine Calls.mono (swapRange_int _ _ _ _ _ _ p u [] v q _ _ _ hF HN.out (by have := Hpu.out; have := Hpi.out; omega) (by have := Hpi.out; omega) (by have := Hpj.out; have := Heq.out; omega) (by have := Hpu.out; simp; omega) hn) ?_; rintro e wz ⟨rfl, T⟩; replace S := hBk _ _ rfl T; clear hBk hF T; simp only [List.set_cons_zero] at S)
          | ((with_reducible refine tot_done ?ht ?_); (case ht => kernel_rfl))
        rw [HE2.out] at S
        go_end0
        exact ⟨rfl, S⟩
      · have hne : ((i : Int) != (j : Int)) = true := by simp; omega
        have hgt : ¬ (j : Int) < i := by omega
        have hlt2 : i < j := by omega
        have HM := Lib.hid (rot_less HR.out hlt2)
        have HE : Hid (p ++ u ++ v ++ q = p ++ u ++ v.take (j - i) ++ v.drop (j - i) ++ q) := by
          show p ++ u ++ v ++ q = _
          rw [List.append_assoc (p ++ u) (v.take (j - i)), HM.out.1]
        rw [HE.out] at S
        rw [HE.out] at HN
        have hpu := HR.out.hm
        have hpi := HR.out.hi
        have l1 := HM.out.2.1
        have l2 : (v.take (j - i)).length = j - i := by have := HR.out.hj; simp; omega
        have Hpu := Lib.hid hpu
        have Hpi := Lib.hid hpi
        have L1 := Lib.hid l1
        have L2 := Lib.hid l2
        clear hpu hpi l1 l2
        go_wp2_with first
          | (go_at_call 92; obtain ⟨Fz, hF, hBk⟩ := S.lend1 0 rfl rfl; refine Calls.mono (swapRange_int _ _ _ _ _ _ p u (v.take (j - i)) (v.drop (j - i)) q _ _ _ hF HN.out (by have := Hpu.out; have := Hpi.out; omega) (by have := Hpi.out; omega) (by have := L1.out; omega) (by have := L2.out; have := Hpu.out; omega) hn) ?_; rintro e wz ⟨rfl, T⟩; replace S := hBk _ _ rfl T; clear hBk hF T; simp only [List.set_cons_zero] at S)
          | ((with_reducible refine tot_done ?ht ?_); (case ht => kernel_rfl))
        have HE2 : Hid (p ++ v.drop (j - i) ++ v.take (j - i) ++ u ++ q = p ++ v.drop (j - i) ++ v.take (j - i) ++ (u ++ q)) := by simp [Hid]
        rw [HE2.out] at S
        go_roundw
        case rel => exact ⟨i, j - i, p, v.drop (j - i), v.take (j - i), u ++ q, hi, by omega, him, by omega, rfl, by congr 1; omega, HM.out.2.2, by rw [HN.out]; simp; omega, S⟩
        case measure => simp [intOf]; omega
end Go.Proofs.Ytcbdacmdmaoegaa

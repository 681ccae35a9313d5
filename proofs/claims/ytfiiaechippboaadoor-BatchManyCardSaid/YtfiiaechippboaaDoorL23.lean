import Derived.Test.YtfiiaechippboaaDoorL16
import Derived.Test.YtfiiaechippboaaDoorL09
import Derived.Deep.CutRange
import Derived.Test.YtfiiaechippboaaDoorL15
import Derived.Test.YtfiiaechippboaaDoorL13
import Derived.Test.YtfiiaechippboaaDoorL06
import Derived.Test.YtfiiaechippboaaDoorL04
/- The walks of the reference's Alone, twice and Wrong. -/
namespace Go.Proofs.YtfiiaechippboaaDoor
open Go Go.RowKit Reg Mem

def aloneX (n : Nat) (lp : Int) (l : List Event) : Int := if lp < 0 ∨ (n : Int) ≤ lp then 10 else if ¬ (∀ x ∈ l, x.dst = lp) then 10 else 0
set_option maxRecDepth 100000 in
set_option maxHeartbeats 4000000 in
theorem ralone_calls (vP vS u1 u2 u3 : Value) (aL : Option Addr) (n cL : Nat) (lp : Int) (v : Value) (l : List Event) (w : World) (F : Nat → Prop) (h : (Sl true Event.cells 7 v l).at_ w F) (hn : l.length ≤ 65536) :
    Calls Tryd.prog 28 #[.agg #[vP, .slice aL n cL, vS, u1, u2, u3], .int .i64 lp, v] w fun r w' => r = .returned (.int .i64 (aloneX n lp l)) ∧ Below w.heap.size w w' := by
  have S : St (fun _ => False) w w [Sl true Event.cells 7 v l] := (St.init _ w).share rfl rfl h
  obtain ⟨ad, cp, rfl, _⟩ := (S.sl 0 rfl).elim fun _ h => h.form
  clear h
  by_cases k1 : lp < 0
  · have HX : Hid (aloneX n lp l = 10) := by show _ = _; unfold aloneX; rw [if_pos (.inl k1)]
    go_enter Tryd.func28, Tryd.ntmps28
    go_wp2_with first | ((with_reducible apply wps_boxa (E := 37) S); (case hx => rfl); clear S; intro bx wz S)
    go_ret
    exact ⟨ret_int HX.out.symm, S.below⟩
  by_cases k2 : (n : Int) ≤ lp
  · have HX : Hid (aloneX n lp l = 10) := by show _ = _; unfold aloneX; rw [if_pos (.inr k2)]
    go_enter Tryd.func28, Tryd.ntmps28
    go_wp2_with first | ((with_reducible apply wps_boxa (E := 37) S); (case hx => rfl); clear S; intro bx wz S) | ((with_reducible apply wps_load S 0); (case hx | hi | hu => rfl); (case hT => decide +kernel))
    go_ret
    exact ⟨ret_int HX.out.symm, S.below⟩
  have HN : Hid (∀ (h : ¬ ∀ x ∈ l, x.dst = lp), aloneX n lp l = 10) := fun h => by unfold aloneX; rw [if_neg (by omega), if_pos h]
  have HY : Hid (∀ (h : ∀ x ∈ l, x.dst = lp), aloneX n lp l = 0) := fun h => by unfold aloneX; rw [if_neg (by omega), if_neg (fun g => g h)]
  have k3 : lp < (n : Int) := by omega
  go_enter Tryd.func28, Tryd.ntmps28
  go_wp2_with first | ((with_reducible apply wps_boxa (E := 37) S); (case hx => rfl); clear S; intro bx wz S) | ((with_reducible apply wps_load S 0); (case hx | hi | hu => rfl); (case hT => decide +kernel))
  replace S := S.pick [1] rfl
  repeat (first | simp only at S | simp only [pick] at S | simp only [nth] at S | simp only [List.set_cons_succ] at S | simp only [List.set_cons_zero] at S | simp only [List.setIfInBounds_toArray] at S | simp only [setAll] at S | simp only [List.cons_append] at S | simp only [List.nil_append] at S | simp only [List.append_nil] at S)
  clear k1 k2 k3
  go_loopw [7] (fun i wr => AllRel (.slice ad l.length cp) l lp w i wr) (fun i _ => l.length - (intOf i).toNat)
  case atStart => exact ⟨0, Nat.zero_le _, rfl, fun q y h => by omega, S⟩
  case round =>
    clear S
    obtain ⟨j, hj, rfl, Hz, S⟩ := hrel
    by_cases hlt : j < l.length
    · obtain ⟨x, hx⟩ : ∃ x, l[j]? = some x := ⟨_, List.getElem?_eq_getElem hlt⟩
      obtain ⟨R, o, rfl⟩ : ∃ R o, ad = some ⟨R, o, none⟩ := (S.sl 0 rfl).elim fun F h => h.head (by omega)
      have hlt2 : (j : Int) < l.length := by omega
      have Hx := Lib.hid hx
      clear hx
      by_cases hd : x.dst = lp
      · go_wp2_with first | ((with_reducible apply wps_load_el S 0 (hj := Hx.out) (q := 4) (u := .int .i64 x.dst)); (case hx | hi => rfl); (case hn => omega); (case hu => rfl); (case hT => decide +kernel))
        go_roundw
        case rel => exact ⟨j + 1, by omega, by go_num, snoc_all' Hz.out Hx.out hd, S⟩
        case measure => first | (simp [intOf]; done) | (simp [intOf]; omega)
      · go_wp2_with first | ((with_reducible apply wps_load_el S 0 (hj := Hx.out) (q := 4) (u := .int .i64 x.dst)); (case hx | hi => rfl); (case hn => omega); (case hu => rfl); (case hT => decide +kernel))
        go_ret
        exact ⟨ret_int (HN.out fun h => hd (h x (List.mem_of_getElem? Hx.out))).symm, S.below⟩
    · obtain rfl : j = l.length := by omega
      go_wp2_with first | ((with_reducible apply wps_load S 0); (case hx | hi | hu => rfl); (case hT => decide +kernel))
      go_ret
      exact ⟨ret_int (HY.out (all_of' Hz.out)).symm, S.below⟩
theorem twice_no2 {l : List Event} (h : ∀ (i k : Nat) x y, k < i → l[i]? = some x → l[k]? = some y → x.key ≠ y.key) : twiceB l = false := by
  unfold twiceB
  rw [Bool.not_eq_false', decide_eq_true_eq, List.Nodup, List.pairwise_map, List.pairwise_iff_getElem]
  intro i j hi hj hij
  exact fun e => h j i _ _ hij (List.getElem?_eq_getElem hj) (List.getElem?_eq_getElem hi) e.symm
def Tw2Rel (v : Value) (l : List Event) (w : World) (i : Value) (wr : World) : Prop :=
  ∃ j : Nat, j ≤ l.length ∧ i = .int .i64 j ∧ Hid (∀ (i k : Nat) x y, i < j → k < i → l[i]? = some x → l[k]? = some y → x.key ≠ y.key) ∧ St (fun _ => False) w wr [Sl true Event.cells 7 v l]
def Tw3Rel (v : Value) (l : List Event) (x : Event) (j : Nat) (w : World) (i : Value) (wr : World) : Prop :=
  ∃ k : Nat, k ≤ j ∧ i = .int .i64 k ∧ Hid (∀ (q : Nat) y, q < k → l[q]? = some y → x.key ≠ y.key) ∧ St (fun _ => False) w wr [Sl true Event.cells 7 v l]
set_option maxRecDepth 100000 in
set_option maxHeartbeats 4000000 in
theorem rtwice_calls (v : Value) (l : List Event) (w : World) (F : Nat → Prop) (h : (Sl true Event.cells 7 v l).at_ w F) (hn : l.length ≤ 65536) : Calls Tryd.prog 29 #[v] w fun r w' => r = .returned (.bool (twiceB l)) ∧ Below w.heap.size w w' := by
  have S : St (fun _ => False) w w [Sl true Event.cells 7 v l] := (St.init _ w).share rfl rfl h
  obtain ⟨ad, cp, rfl, _⟩ := (S.sl 0 rfl).elim fun _ h => h.form
  clear h
  have HN : Hid (∀ (h : ∀ (i k : Nat) x y, k < i → l[i]? = some x → l[k]? = some y → x.key ≠ y.key), twiceB l = false) := twice_no2
  have HY : Hid (∀ (i j : Nat) x y, l[i]? = some x → l[j]? = some y → i ≠ j → x.key = y.key → twiceB l = true) := fun i j x y h1 h2 h3 h4 => twice_yes h1 h2 h3 h4
  go_enter Tryd.func29, Tryd.ntmps29
  go_wp2_with first | ((with_reducible apply wps_loada (T := 52) (k := 4) S 0); (case hx | hi => rfl); (case hk => exact Nat.le_of_ble_eq_true rfl); (case hT => decide +kernel))
  go_loopw [3] (fun i wr => Tw2Rel (.slice ad l.length cp) l w i wr) (fun i _ => l.length - (intOf i).toNat)
  case atStart => exact ⟨0, Nat.zero_le _, rfl, fun i k x y h => by omega, S⟩
  case round =>
    clear S
    obtain ⟨j, hj, rfl, Hz, S⟩ := hrel
    by_cases hlt : j < l.length
    · obtain ⟨x, hx⟩ : ∃ x, l[j]? = some x := ⟨_, List.getElem?_eq_getElem hlt⟩
      obtain ⟨R, o, rfl⟩ : ∃ R o, ad = some ⟨R, o, none⟩ := (S.sl 0 rfl).elim fun F h => h.head (by omega)
      have hlt2 : (j : Int) < l.length := by omega
      have Hx := Lib.hid hx
      clear hx
      go_wp2_with first | ((with_reducible apply wps_loada (T := 52) (k := 4) S 0); (case hx | hi => rfl); (case hk => exact Nat.le_of_ble_eq_true rfl); (case hT => decide +kernel))
      go_loopw [4] (fun i wr => Tw3Rel (.slice (some ⟨R, o, none⟩) l.length cp) l x j w i wr) (fun i _ => j - (intOf i).toNat)
      case atStart => exact ⟨0, Nat.zero_le _, rfl, fun q y h => by omega, S⟩
      case round =>
        clear S
        obtain ⟨k, hk, rfl, Hy, S⟩ := hrel
        by_cases hlk : k < j
        · obtain ⟨y, hy⟩ : ∃ y, l[k]? = some y := ⟨_, List.getElem?_eq_getElem (by omega)⟩
          have hlk2 : (k : Int) < j := by omega
          have hlk3 : (k : Int) < l.length := by omega
          by_cases he : x.key = y.key
          · have He := Lib.hid ((key_ceqs y.key x.key).trans (show _ = true by simp [he]))
            have HK := Lib.hid he
            clear he
            have Hk := Lib.hid hy
            clear hy
            go_wp2_with first | ((with_reducible apply wps_loada_el S 0 (hj := Hx.out) (q := 0) (vs := [.int .i64 x.key.at_, .int .i64 x.key.src, .int .i64 x.key.sent, .int .i64 x.key.no]) (m := 4)); (case hx | hi => rfl); (case hn => omega); (case hm | hv => rfl); (case hT => decide +kernel)) | ((with_reducible apply wps_loada_el S 0 (hj := Hk.out) (q := 0) (vs := [.int .i64 y.key.at_, .int .i64 y.key.src, .int .i64 y.key.sent, .int .i64 y.key.no]) (m := 4)); (case hx | hi => rfl); (case hn => omega); (case hm | hv => rfl); (case hT => decide +kernel)) | ((with_reducible apply wpList_eql_agg (t := 52) (ks := [.int .i64, .int .i64, .int .i64, .int .i64]) (b := _)); (case hx | hy => rfl); (case hl | ha | hg => kernel_rfl); (case hfx | hfy => rfl); (case hb => exact He.out)) | ((with_reducible refine tot_done ?ht ?_); (case ht => kernel_rfl)) | ((with_reducible apply wps_text S); (case hm => kernel_rfl); (case hB => decide +kernel); clear S; intro wz S)
            go_ret
            exact ⟨ret_bool (HY.out j k x y Hx.out Hk.out (by omega) HK.out).symm, S.below⟩
          · have He := Lib.hid ((key_ceqs y.key x.key).trans (show _ = false by simp [Ne.symm he]))
            have HK := Lib.hid he
            clear he
            have Hk := Lib.hid hy
            clear hy
            go_wp2_with first | ((with_reducible apply wps_loada_el S 0 (hj := Hx.out) (q := 0) (vs := [.int .i64 x.key.at_, .int .i64 x.key.src, .int .i64 x.key.sent, .int .i64 x.key.no]) (m := 4)); (case hx | hi => rfl); (case hn => omega); (case hm | hv => rfl); (case hT => decide +kernel)) | ((with_reducible apply wps_loada_el S 0 (hj := Hk.out) (q := 0) (vs := [.int .i64 y.key.at_, .int .i64 y.key.src, .int .i64 y.key.sent, .int .i64 y.key.no]) (m := 4)); (case hx | hi => rfl); (case hn => omega); (case hm | hv => rfl); (case hT => decide +kernel)) | ((with_reducible apply wpList_eql_agg (t := 52) (ks := [.int .i64, .int .i64, .int .i64, .int .i64]) (b := _)); (case hx | hy => rfl); (case hl | ha | hg => kernel_rfl); (case hfx | hfy => rfl); (case hb => exact He.out)) | ((with_reducible refine tot_done ?ht ?_); (case ht => kernel_rfl)) | ((with_reducible apply wps_text S); (case hm => kernel_rfl); (case hB => decide +kernel); clear S; intro wz S)
            go_roundw
            case rel => exact ⟨k + 1, by omega, by go_num, snoc_all' (p := fun y : Event => x.key ≠ y.key) Hy.out Hk.out HK.out, S⟩
            case measure => first | (simp [intOf]; done) | (simp [intOf]; omega)
        · obtain rfl : k = j := by omega
          go_wp2_with first | ((with_reducible apply wps_loada (T := 52) (k := 4) S 0); (case hx | hi => rfl); (case hk => exact Nat.le_of_ble_eq_true rfl); (case hT => decide +kernel))
          go_roundw
          case rel =>
            refine ⟨k + 1, by omega, by go_num, fun i q a b hi hq ha hb => ?_, S⟩
            by_cases e : i = k
            · subst e; rw [Hx.out] at ha; cases ha; exact Hy.out q b hq hb
            · exact Hz.out i q a b (by omega) hq ha hb
          case measure => first | (simp [intOf]; done) | (simp [intOf]; omega)
    · obtain rfl : j = l.length := by omega
      go_wp2_with first | ((with_reducible apply wps_loada (T := 52) (k := 4) S 0); (case hx | hi => rfl); (case hk => exact Nat.le_of_ble_eq_true rfl); (case hT => decide +kernel))
      go_ret
      exact ⟨ret_bool (HN.out fun i k x y hk hx hy => Hz.out i k x y (List.getElem?_eq_some_iff.1 hx).1 hk hx hy).symm, S.below⟩
end Go.Proofs.YtfiiaechippboaaDoor
/- The walks of keys.Of, keys.Check and the law's Events (as in K1, K8, L6), for a seat that has these alone. -/
namespace Go.Proofs.YtfiiaechippboaaDoor
open Go Go.RowKit Reg Mem

theorem ev_nceqs (a b : Event) : (!ceqs a.cells b.cells) = !decide (a = b) := by
  congr 1
  obtain ⟨⟨a1, a2, a3, a4⟩, a5, a6, a7⟩ := a; obtain ⟨⟨b1, b2, b3, b4⟩, b5, b6, b7⟩ := b
  simp only [Event.cells, ceqs, ceq, Bool.and_true, Event.mk.injEq, Key.mk.injEq]
  rw [Bool.eq_iff_iff]; simp [and_assoc]
def chk (e : Event) : Int :=
  if e.key.src < -1 ∨ 32 ≤ e.key.src ∨ e.dst < 0 ∨ 32 ≤ e.dst ∨ e.key.no < 0 ∨ 1024 ≤ e.key.no ∨ e.key.at_ < 0 ∨ 1073741824 < e.key.at_ then 10
  else if e.key.sent < -1 ∨ e.key.at_ ≤ e.key.sent then 18 else 0
def EvEqRel (v1 v2 : Value) (xs ys : List Event) (w : World) (i : Value) (wr : World) : Prop :=
  ∃ j : Nat, j ≤ xs.length ∧ i = .int .i64 j ∧ (∀ q : Nat, q < j → xs[q]? = ys[q]?) ∧ St (fun _ => False) w wr [Sl true Event.cells 7 v2 ys, Sl true Event.cells 7 v1 xs]
set_option maxRecDepth 100000 in
set_option maxHeartbeats 4000000 in
theorem evseq_calls (v1 v2 : Value) (xs ys : List Event) (w : World) (F1 F2 : Nat → Prop) (h1 : (Sl true Event.cells 7 v1 xs).at_ w F1) (h2 : (Sl true Event.cells 7 v2 ys).at_ w F2) (hn : xs.length ≤ 65536) (hn2 : ys.length ≤ 65536) :
    Calls Tryd.prog 16 #[v1, v2] w fun r w' => r = .returned (.bool (decide (xs = ys))) ∧ Below w.heap.size w w' := by
  have S : St (fun _ => False) w w [Sl true Event.cells 7 v2 ys, Sl true Event.cells 7 v1 xs] := ((St.init _ w).share rfl rfl h1).share rfl rfl h2
  obtain ⟨ad2, c2, rfl, _⟩ := (S.sl 0 rfl).elim fun _ h => h.form
  obtain ⟨ad1, c1, rfl, _⟩ := (S.sl 1 rfl).elim fun _ h => h.form
  clear h1 h2
  by_cases hl : xs.length = ys.length
  · have hl2 : (xs.length : Int) = ys.length := by omega
    have HL := Lib.hid hl
    clear hl
    go_enter Tryd.func16, Tryd.ntmps16
    go_wp2_with first | ((with_reducible apply wps_loada (T := 54) (k := 7) S 3); (case hx | hi => rfl); (case hk => exact Nat.le_of_ble_eq_true rfl); (case hT => decide +kernel))
    go_loopw [5] (fun i wr => EvEqRel (.slice ad1 xs.length c1) (.slice ad2 ys.length c2) xs ys w i wr) (fun i _ => xs.length - (intOf i).toNat)
    case atStart => exact ⟨0, Nat.zero_le _, rfl, fun q h => by omega, S⟩
    case round =>
      clear S
      obtain ⟨j, hj, rfl, he, S⟩ := hrel
      have He := Lib.hid he
      clear he
      by_cases hlt : j < xs.length
      · obtain ⟨x, hx⟩ : ∃ x, xs[j]? = some x := ⟨_, List.getElem?_eq_getElem hlt⟩
        obtain ⟨y, hy⟩ : ∃ y, ys[j]? = some y := ⟨_, List.getElem?_eq_getElem (by have := HL.out; omega)⟩
        obtain ⟨R1, o1, rfl⟩ : ∃ R o, ad1 = some ⟨R, o, none⟩ := (S.sl 1 rfl).elim fun F h => h.head (by omega)
        obtain ⟨R2, o2, rfl⟩ : ∃ R o, ad2 = some ⟨R, o, none⟩ := (S.sl 0 rfl).elim fun F h => h.head (by have := HL.out; omega)
        have hlt2 : (j : Int) < xs.length := by omega
        have hlt3 : (j : Int) < ys.length := by omega
        have hlt4 : j < ys.length := by omega
        by_cases hxy : x = y
        · have HN := Lib.hid ((ev_nceqs x y).trans (show _ = false by simp [hxy]))
          have HXY := Lib.hid hxy
          clear hxy
          have Hx := Lib.hid hx
          have Hy := Lib.hid hy
          clear hx hy
          go_wp2_with first | ((with_reducible apply wps_loada_el S 1 (hj := Hx.out) (q := 0) (vs := [.int .i64 x.key.at_, .int .i64 x.key.src, .int .i64 x.key.sent, .int .i64 x.key.no, .int .i64 x.dst, .int .i64 x.kind, .int .i64 x.data]) (m := 7)); (case hx | hi => rfl); (case hn => omega); (case hm | hv => rfl); (case hT => decide +kernel)) | ((with_reducible apply wps_loada_el S 0 (hj := Hy.out) (q := 0) (vs := [.int .i64 y.key.at_, .int .i64 y.key.src, .int .i64 y.key.sent, .int .i64 y.key.no, .int .i64 y.dst, .int .i64 y.kind, .int .i64 y.data]) (m := 7)); (case hx | hi => rfl); (case hn => omega); (case hm | hv => rfl); (case hT => decide +kernel)) | ((with_reducible apply wpList_neq_agg (t := 54) (ks := [.int .i64, .int .i64, .int .i64, .int .i64, .int .i64, .int .i64, .int .i64]) (b := _)); (case hx | hy => rfl); (case hl | ha | hg => kernel_rfl); (case hfx | hfy => rfl); (case hb => exact HN.out)) | ((with_reducible refine tot_done ?ht ?_); (case ht => kernel_rfl)) | ((with_reducible apply wps_text S); (case hm => kernel_rfl); (case hB => decide +kernel); clear S; intro wz S)
          go_roundw
          case rel =>
            refine ⟨j + 1, by omega, by go_num, fun q hq => ?_, S⟩
            by_cases e : q = j
            · subst e; rw [Hx.out, Hy.out, HXY.out]
            · exact He.out q (by omega)
          case measure => simp [intOf]; omega
        · have HN := Lib.hid ((ev_nceqs x y).trans (show _ = true by simp [hxy]))
          have HXY := Lib.hid hxy
          clear hxy
          have Hx := Lib.hid hx
          have Hy := Lib.hid hy
          clear hx hy
          go_wp2_with first | ((with_reducible apply wps_loada_el S 1 (hj := Hx.out) (q := 0) (vs := [.int .i64 x.key.at_, .int .i64 x.key.src, .int .i64 x.key.sent, .int .i64 x.key.no, .int .i64 x.dst, .int .i64 x.kind, .int .i64 x.data]) (m := 7)); (case hx | hi => rfl); (case hn => omega); (case hm | hv => rfl); (case hT => decide +kernel)) | ((with_reducible apply wps_loada_el S 0 (hj := Hy.out) (q := 0) (vs := [.int .i64 y.key.at_, .int .i64 y.key.src, .int .i64 y.key.sent, .int .i64 y.key.no, .int .i64 y.dst, .int .i64 y.kind, .int .i64 y.data]) (m := 7)); (case hx | hi => rfl); (case hn => omega); (case hm | hv => rfl); (case hT => decide +kernel)) | ((with_reducible apply wpList_neq_agg (t := 54) (ks := [.int .i64, .int .i64, .int .i64, .int .i64, .int .i64, .int .i64, .int .i64]) (b := _)); (case hx | hy => rfl); (case hl | ha | hg => kernel_rfl); (case hfx | hfy => rfl); (case hb => exact HN.out)) | ((with_reducible refine tot_done ?ht ?_); (case ht => kernel_rfl)) | ((with_reducible apply wps_text S); (case hm => kernel_rfl); (case hB => decide +kernel); clear S; intro wz S)
          go_ret
          exact ⟨ret_bool (by symm; rw [decide_eq_false_iff_not]; rintro rfl; rw [Hx.out] at Hy; exact HXY.out (Option.some.inj Hy.out)), S.below⟩
      · obtain rfl : j = xs.length := by omega
        go_wp2_with first | ((with_reducible apply wps_loada (T := 54) (k := 7) S 3); (case hx | hi => rfl); (case hk => exact Nat.le_of_ble_eq_true rfl); (case hT => decide +kernel))
        go_ret
        refine ⟨ret_bool ?_, S.below⟩
        symm
        rw [decide_eq_true_eq]
        refine List.ext_getElem? fun q => ?_
        by_cases hq : q < xs.length
        · exact He.out q hq
        · have := HL.out
          rw [List.getElem?_eq_none (by omega), List.getElem?_eq_none (by omega)]
  · have hl2 : ¬ (xs.length : Int) = ys.length := by omega
    have HL := Lib.hid hl
    clear hl
    go_enter Tryd.func16, Tryd.ntmps16
    go_wp2_with first | ((with_reducible apply wps_loada (T := 54) (k := 7) S 3); (case hx | hi => rfl); (case hk => exact Nat.le_of_ble_eq_true rfl); (case hT => decide +kernel))
    go_ret
    exact ⟨ret_bool (by symm; rw [decide_eq_false_iff_not]; rintro rfl; exact HL.out rfl), S.below⟩
end Go.Proofs.YtfiiaechippboaaDoor
/- The walks of the reference's Less, Sort (as in K8, RSort) and Events. -/
namespace Go.Proofs.YtfiiaechippboaaDoor
open Go Go.RowKit Reg Mem

theorem less_calls (a b c d a' b' c' d' : Int) (w : World) :
    Calls Tryd.prog 55 #[.agg #[.int .i64 a, .int .i64 b, .int .i64 c, .int .i64 d], .agg #[.int .i64 a', .int .i64 b', .int .i64 c', .int .i64 d']] w fun e w' => e = .returned (.bool (Key.lt ⟨a, b, c, d⟩ ⟨a', b', c', d'⟩)) ∧ Below w.heap.size w w' := by
  have S := St.init (fun _ => False) w
  go_enter Tryd.func55, Tryd.ntmps55
  go_wp2_with first | ((with_reducible apply wps_boxa S); (case hx => rfl); clear S; intro bz wz S) | ((with_reducible apply wps_load S 0); (case hx | hi | hu => rfl); (case hT => decide +kernel)) | ((with_reducible apply wps_load S 1); (case hx | hi | hu => rfl); (case hT => decide +kernel))
  all_goals go_ret
  all_goals refine ⟨ret_bool ?_, S.below⟩
  · exact lt1 ‹_›
  · exact lt2 ‹_› ‹_›
  · exact lt3 ‹_› ‹_› ‹_›
  · exact lt4 ‹_› ‹_› ‹_›
theorem insE_at {out : List Event} {x : Event} {n : Nat} (h1 : ∀ y ∈ out.take n, x.key.lt y.key = false) (h2 : n = out.length ∨ ∃ y, out[n]? = some y ∧ x.key.lt y.key = true) : insE out x = out.take n ++ x :: out.drop n := by
  have e : out.takeWhile (fun y => !x.key.lt y.key) = out.take n ∧ out.dropWhile (fun y => !x.key.lt y.key) = out.drop n := by
    induction out generalizing n with
    | nil => simp
    | cons a out ih =>
      cases n with
      | zero =>
        rcases h2 with h2 | ⟨y, hy, hl⟩
        · simp at h2
        · simp at hy; subst hy; simp [hl]
      | succ n =>
        have ha : x.key.lt a.key = false := h1 a (by simp)
        have := ih (n := n) (fun y hy => h1 y (by simp [hy])) (by
          rcases h2 with h2 | ⟨y, hy, hl⟩
          · simp at h2; exact .inl h2
          · exact .inr ⟨y, by simpa using hy, hl⟩)
        simp [ha, this.1, this.2]
  rw [insE, e.1, e.2]
theorem fold_step {l : List Event} {i : Nat} {x : Event} (h : l[i]? = some x) : (l.take (i + 1)).foldl insE [] = insE ((l.take i).foldl insE []) x := by
  rw [List.take_add_one, h]; simp
def RSoRel1 (ad : Option Addr) (cp : Nat) (l : List Event) (w : World) (out i : Value) (wr : World) : Prop :=
  ∃ (j : Nat), j ≤ l.length ∧ i = .int .i64 j ∧ St (fun _ => False) w wr [Own 54 Event.cells 7 out (sortE (l.take j)), Sl true Event.cells 7 (.slice ad l.length cp) l]
def RSoRel2 (va : Value) (ad : Option Addr) (cp : Nat) (l out : List Event) (x : Event) (w : World) (n : Value) (wr : World) : Prop :=
  ∃ (k : Nat), k ≤ out.length ∧ n = .int .i64 k ∧ (∀ y ∈ out.take k, x.key.lt y.key = false) ∧ St (fun _ => False) w wr [Sl true Event.cells 7 va out, Sl true Event.cells 7 (.slice ad l.length cp) l]
set_option maxRecDepth 100000 in
set_option maxHeartbeats 8000000 in
theorem rsort_calls (v : Value) (l : List Event) (w : World) (F : Nat → Prop) (h : (Sl true Event.cells 7 v l).at_ w F) (hn : l.length ≤ 65536) : Calls Tryd.prog 38 #[v] w (SortPost l w) := by
  have S : St (fun _ => False) w w [Sl true Event.cells 7 v l] := (St.init _ w).share rfl rfl h
  obtain ⟨ad, cp, rfl, _⟩ := (S.sl 0 rfl).elim fun _ h => h.form
  clear h
  replace S := S.nil 54 Event.cells 7
  go_enter Tryd.func38, Tryd.ntmps38
  go_wp2_with first | ((with_reducible apply wps_loada (T := 54) (k := 7) S 0); (case hx | hi => rfl); (case hk => exact Nat.le_of_ble_eq_true rfl); (case hT => decide +kernel))
  go_loopw [3, 4] (fun out i wr => RSoRel1 ad cp l w out i wr) (fun _ i _ => l.length - (intOf i).toNat)
  case atStart => exact ⟨0, Nat.zero_le _, rfl, S⟩
  case round =>
    clear S
    obtain ⟨i, hi, rfl, S⟩ := hrel
    by_cases hlt : i < l.length
    · obtain ⟨R, o, rfl⟩ : ∃ R o, ad = some ⟨R, o, none⟩ := (S.sl 1 rfl).elim fun F h => h.head (by omega)
      obtain ⟨x, hx⟩ : ∃ x, l[i]? = some x := ⟨_, List.getElem?_eq_getElem hlt⟩
      have hlt2 : (i : Int) < l.length := by omega
      have HS : Hid (sortE (l.take (i + 1)) = insE (sortE (l.take i)) x) := fold_step hx
      have hol : (sortE (l.take i)).length = i := by rw [sortE_len]; simp; omega
      generalize sortE (l.take i) = out at *
      replace S := S.freeze true 0 ecells rfl
      simp only [List.set_cons_zero] at S
      obtain ⟨ad2, c2, rfl, _⟩ := (S.sl 0 rfl).elim fun _ h => h.form
      have hol2 : out.length ≤ 65536 := by omega
      have hol3 : out.length ≤ i := by omega
      have Hx := Lib.hid hx
      clear hx
      clear hol
      go_wp2_with first | ((with_reducible apply wps_loada (T := 54) (k := 7) S 0); (case hx | hi => rfl); (case hk => exact Nat.le_of_ble_eq_true rfl); (case hT => decide +kernel))
      go_loopw [5] (fun n wr => RSoRel2 (.slice ad2 out.length c2) (some ⟨R, o, none⟩) cp l out x w n wr) (fun n _ => out.length - (intOf n).toNat)
      case atStart => exact ⟨0, Nat.zero_le _, rfl, fun y h => by simp at h, S⟩
      case round =>
        clear S
        obtain ⟨k, hk, rfl, hall, S⟩ := hrel
        have goal_ : ∀ (hstop : k = out.length ∨ ∃ y, out[k]? = some y ∧ x.key.lt y.key = true), Hid (insE out x = out.take k ++ x :: out.drop k) := fun hstop => insE_at hall hstop
        by_cases hkl : k < out.length
        · obtain ⟨y, hy⟩ : ∃ y, out[k]? = some y := ⟨_, List.getElem?_eq_getElem hkl⟩
          obtain ⟨R2, o2, rfl⟩ : ∃ R o, ad2 = some ⟨R, o, none⟩ := (S.sl 0 rfl).elim fun F h => h.head (by omega)
          have hkl2 : (k : Int) < out.length := by omega
          cases hc : x.key.lt y.key with
          | false =>
            have HC : Hid (∀ w, Calls Tryd.prog 55 #[.agg #[.int .i64 x.key.at_, .int .i64 x.key.src, .int .i64 x.key.sent, .int .i64 x.key.no], .agg #[.int .i64 y.key.at_, .int .i64 y.key.src, .int .i64 y.key.sent, .int .i64 y.key.no]] w fun e w' => e = .returned (.bool false) ∧ Below w.heap.size w w') := fun w => hc ▸ less_calls _ _ _ _ _ _ _ _ w
            have HA : Hid (∀ z ∈ out.take (k + 1), x.key.lt z.key = false) := fun z hz => by
              rw [List.take_add_one, hy] at hz
              rcases List.mem_append.1 hz with h | h
              · exact hall z h
              · simp at h; subst h; exact hc
            clear hc goal_ hall
            have Hy := Lib.hid hy
            clear hy
            go_wp2_with first | ((with_reducible apply wps_loada_el S 1 (hj := Hx.out) (q := 0) (vs := [.int .i64 x.key.at_, .int .i64 x.key.src, .int .i64 x.key.sent, .int .i64 x.key.no]) (m := 4)); (case hx | hi => rfl); (case hn => omega); (case hm | hv => rfl); (case hT => decide +kernel)) | ((with_reducible apply wps_loada_el S 0 (hj := Hy.out) (q := 0) (vs := [.int .i64 y.key.at_, .int .i64 y.key.src, .int .i64 y.key.sent, .int .i64 y.key.no]) (m := 4)); (case hx | hi => rfl); (case hn => omega); (case hm | hv => rfl); (case hT => decide +kernel)) | (go_at_call 55; refine Calls.mono (HC.out _) ?_; rintro e wz ⟨rfl, hE⟩; replace S := S.ext (Keep.of_below hE); clear hE) | ((with_reducible refine tot_done ?ht ?_); (case ht => kernel_rfl)) | ((with_reducible apply wps_text S); (case hm => kernel_rfl); (case hB => decide +kernel); clear S; intro wz S)
            go_roundw
            case rel => exact ⟨k + 1, by omega, by go_num, HA.out, S⟩
            case measure => first | (simp [intOf]; done) | (simp [intOf]; omega)
          | true =>
            have HC : Hid (∀ w, Calls Tryd.prog 55 #[.agg #[.int .i64 x.key.at_, .int .i64 x.key.src, .int .i64 x.key.sent, .int .i64 x.key.no], .agg #[.int .i64 y.key.at_, .int .i64 y.key.src, .int .i64 y.key.sent, .int .i64 y.key.no]] w fun e w' => e = .returned (.bool true) ∧ Below w.heap.size w w') := fun w => hc ▸ less_calls _ _ _ _ _ _ _ _ w
            have HG := goal_ (.inr ⟨y, hy, hc⟩)
            clear hc goal_ hall
            have Hy := Lib.hid hy
            clear hy
            replace S := S.nil 54 Event.cells 7
            go_wp2_with first | ((with_reducible apply wps_loada_el S 2 (hj := Hx.out) (q := 0) (vs := [.int .i64 x.key.at_, .int .i64 x.key.src, .int .i64 x.key.sent, .int .i64 x.key.no]) (m := 4)); (case hx | hi => rfl); (case hn => omega); (case hm | hv => rfl); (case hT => decide +kernel)) | ((with_reducible apply wps_loada_el S 1 (hj := Hy.out) (q := 0) (vs := [.int .i64 y.key.at_, .int .i64 y.key.src, .int .i64 y.key.sent, .int .i64 y.key.no]) (m := 4)); (case hx | hi => rfl); (case hn => omega); (case hm | hv => rfl); (case hT => decide +kernel)) | (go_at_call 55; refine Calls.mono (HC.out _) ?_; rintro e wz ⟨rfl, hE⟩; replace S := S.ext (Keep.of_below hE); clear hE) | ((with_reducible apply wps_slice (E := 54) S 1 (l := 0) (u := k)); (case hx | hi => rfl); (case hT => exact Tryd.underlying29); (case hE => intro w; kernel_rfl); (case hlo | hhi => first | exact .inr rfl | exact .inl ⟨rfl, rfl⟩); (case h1 | h2 => first | omega | (simp; omega)); clear S; intro az nz cz hnz S) | ((with_reducible apply wps_appends elem_Ev ecells eone (by decide) S 1 (j := 0)); (case hx | hy | hi | hj => rfl); (case hl => first | omega | (simp; omega)); clear S; intro az nz cz wz hnz S; simp only [List.set_cons_succ, List.set_cons_zero] at S) | ((with_reducible apply wps_loada_el S 3 (hj := Hx.out) (q := 0) (vs := [.int .i64 x.key.at_, .int .i64 x.key.src, .int .i64 x.key.sent, .int .i64 x.key.no, .int .i64 x.dst, .int .i64 x.kind, .int .i64 x.data]) (m := 7)); (case hx | hi => rfl); (case hn => omega); (case hm | hv => rfl); (case hT => decide +kernel)) | ((with_reducible apply wps_build1a (T := 29) (E := 54) S); (case hx => rfl); (case hr => intro w; kernel_rfl); clear S; intro bz wz S) | ((with_reducible apply wps_append1 elem_Ev ecells eone (by decide) S 2 (j := 0) (e := x)); (case hx | hy | hi | hj | he => rfl); (case hl => first | omega | (simp; omega)); clear S; intro az nz cz wz hnz S; simp only [List.set_cons_succ, List.set_cons_zero] at S) | ((with_reducible apply wps_slice (E := 54) S 3 (l := k) (u := out.length)); (case hx | hi => rfl); (case hT => exact Tryd.underlying29); (case hE => intro w; kernel_rfl); (case hlo | hhi => first | exact .inr rfl | exact .inl ⟨rfl, rfl⟩); (case h1 | h2 => first | omega | (simp; omega)); clear S; intro az nz cz hnz S) | ((with_reducible apply wps_appends elem_Ev ecells eone (by decide) S 3 (j := 0)); (case hx | hy | hi | hj => rfl); (case hl => first | omega | (simp; omega)); clear S; intro az nz cz wz hnz S; simp only [List.set_cons_succ, List.set_cons_zero] at S) | ((with_reducible refine tot_done ?ht ?_); (case ht => kernel_rfl)) | ((with_reducible apply wps_text S); (case hm => kernel_rfl); (case hB => decide +kernel); clear S; intro wz S)
            have HE : Hid ([] ++ (out.take k).drop 0 ++ [x] ++ (out.take out.length).drop k = sortE (l.take (i + 1))) := by
              rw [HS.out, HG.out, List.take_length]; simp [Hid]
            rw [HE.out] at S
            go_roundw
            case rel => exact ⟨i + 1, by omega, by go_num, S.pick [3, 5] rfl⟩
            case measure => first | (simp [intOf]; done) | (simp [intOf]; omega)
        · obtain rfl : k = out.length := by omega
          have HG := goal_ (.inl rfl)
          clear goal_ hall
          replace S := S.nil 54 Event.cells 7
          generalize hkk : out.length = k at *
          go_wp2_with first | ((with_reducible apply wps_slice (E := 54) S 1 (l := 0) (u := k)); (case hx | hi => rfl); (case hT => exact Tryd.underlying29); (case hE => intro w; kernel_rfl); (case hlo | hhi => first | exact .inr rfl | exact .inl ⟨rfl, rfl⟩); (case h1 | h2 => first | omega | (simp; omega)); clear S; intro az nz cz hnz S) | ((with_reducible apply wps_appends elem_Ev ecells eone (by decide) S 1 (j := 0)); (case hx | hy | hi | hj => rfl); (case hl => first | omega | (simp; omega)); clear S; intro az nz cz wz hnz S; simp only [List.set_cons_succ, List.set_cons_zero] at S) | ((with_reducible apply wps_loada_el S 3 (hj := Hx.out) (q := 0) (vs := [.int .i64 x.key.at_, .int .i64 x.key.src, .int .i64 x.key.sent, .int .i64 x.key.no, .int .i64 x.dst, .int .i64 x.kind, .int .i64 x.data]) (m := 7)); (case hx | hi => rfl); (case hn => omega); (case hm | hv => rfl); (case hT => decide +kernel)) | ((with_reducible apply wps_build1a (T := 29) (E := 54) S); (case hx => rfl); (case hr => intro w; kernel_rfl); clear S; intro bz wz S) | ((with_reducible apply wps_append1 elem_Ev ecells eone (by decide) S 2 (j := 0) (e := x)); (case hx | hy | hi | hj | he => rfl); (case hl => first | omega | (simp; omega)); clear S; intro az nz cz wz hnz S; simp only [List.set_cons_succ, List.set_cons_zero] at S) | ((with_reducible apply wps_slice (E := 54) S 3 (l := k) (u := k)); (case hx | hi => rfl); (case hT => exact Tryd.underlying29); (case hE => intro w; kernel_rfl); (case hlo | hhi => first | exact .inr rfl | exact .inl ⟨rfl, rfl⟩); (case h1 | h2 => first | omega | (simp; omega)); clear S; intro az nz cz hnz S) | ((with_reducible apply wps_appends elem_Ev ecells eone (by decide) S 3 (j := 0)); (case hx | hy | hi | hj => rfl); (case hl => first | omega | (simp; omega)); clear S; intro az nz cz wz hnz S; simp only [List.set_cons_succ, List.set_cons_zero] at S) | ((with_reducible refine tot_done ?ht ?_); (case ht => kernel_rfl)) | ((with_reducible apply wps_text S); (case hm => kernel_rfl); (case hB => decide +kernel); clear S; intro wz S)
          have HE : Hid ([] ++ (out.take k).drop 0 ++ [x] ++ (out.take k).drop k = sortE (l.take (i + 1))) := by
            rw [HS.out, HG.out, List.take_of_length_le (by omega : out.length ≤ k)]; simp [Hid]
          rw [HE.out] at S
          go_roundw
          case rel => exact ⟨i + 1, by omega, by go_num, S.pick [3, 5] rfl⟩
          case measure => first | (simp [intOf]; done) | (simp [intOf]; omega)
    · obtain rfl : i = l.length := by omega
      rw [List.take_length] at S
      obtain ⟨F0, hF0⟩ := S.get (i := 0) rfl
      obtain ⟨ad0, c0, rfl⟩ := hF0.1.form
      clear hF0
      rw [sortE_len] at S
      rw [sortE_len]
      go_wp2_with first | ((with_reducible apply wps_loada (T := 54) (k := 7) S 0); (case hx | hi => rfl); (case hk => exact Nat.le_of_ble_eq_true rfl); (case hT => decide +kernel))
      go_ret
      exact ⟨_, _, rfl, S.pick [0] rfl⟩
end Go.Proofs.YtfiiaechippboaaDoor
/- A configuration out of its parts. -/
namespace Go.Proofs.YtfiiaechippboaaDoor
open Go Go.RowKit Reg Mem

theorem cfg_any {vP vL vS : Value} {hs : List Value} {c : Cfg} {w : World} {F1 F2 F3 F4 : Nat → Prop} (h1 : (Sl true vcell 1 vP hs).at_ w F1) (h2 : (Sl true Place.cells 5 vL c.lps).at_ w F2) (h3 : (Sl true Start.cells 4 vS c.starts).at_ w F3) (h4 : (Sls true Instr.cells 5 hs c.programs).at_ w F4) :
    (CfgA true [vP, vL, vS, .int .i64 c.fin, .int .i64 c.fuel, .int .i64 c.fan] hs c).at_ w (fun b => b < w.heap.size) :=
  ⟨⟨⟨vP, vL, vS, rfl, h1.1.mono h1.2, h2.1.mono h2.2, h3.1.mono h3.2⟩, h4.1.mono h4.2⟩, fun _ h => h⟩
theorem sls_one {α : Type} {enc : α → List Value} {k : Nat} {v : Value} {xs : List α} {w : World} {F : Nat → Prop} (h : (Sl true enc k v xs).at_ w F) : (Sls true enc k [v] [xs]).at_ w F :=
  ⟨⟨rfl, fun i u ys hu hy => by
    cases i with
    | zero => simp at hu hy; subst hu; subst hy; exact h.1
    | succ i => simp at hu⟩, h.2⟩
end Go.Proofs.YtfiiaechippboaaDoor
/- The walks of the law's Few and ModelEvents. -/
namespace Go.Proofs.YtfiiaechippboaaDoor
open Go Go.RowKit Reg Mem

def fewB (c : Cfg) : Bool := c.programs.all (fun p => decide (p.length ≤ 80)) && (decide (c.programs.length ≤ 40) && (decide (c.lps.length ≤ 40) && decide (c.starts.length ≤ 300)))
theorem few_iff {c : Cfg} : fewB c = true ↔ (∀ p ∈ c.programs, p.length ≤ 80) ∧ c.programs.length ≤ 40 ∧ c.lps.length ≤ 40 ∧ c.starts.length ≤ 300 := by
  simp [fewB]
def FewRel (bx : Nat) (cs : Array Value) (vP : Value) (hs : List Value) (ps : List (List Instr)) (w : World) (i : Value) (wr : World) : Prop :=
  ∃ j : Nat, j ≤ ps.length ∧ i = .int .i64 j ∧ Hid (∀ (q : Nat) y, q < j → ps[q]? = some y → y.length ≤ 80) ∧ St (fun _ => False) w wr [Blk false bx cs 26, Sls true Instr.cells 5 hs ps, Sl true vcell 1 vP hs]
set_option maxRecDepth 100000 in
set_option maxHeartbeats 4000000 in
theorem few_calls (vs hs : List Value) (c : Cfg) (w : World) (F : Nat → Prop) (h : (CfgA true vs hs c).at_ w F) (hw : Wide c) : Calls Tryd.prog 25 #[.agg vs.toArray] w fun r w' => r = .returned (.bool (fewB c)) ∧ Below w.heap.size w w' := by
  have S : St (fun _ => False) w w [CfgA true vs hs c] := (St.init _ w).share rfl rfl h
  obtain ⟨aP, cP, aL, cL, aS, cS, rfl, hlen, S⟩ := S.cfg 0 rfl
  replace S := S.pick [0, 1] rfl
  simp only [pick, nth] at S
  clear h
  have hp1 : c.programs.length ≤ 9223372036854775807 := Nat.le_trans hw.p (by decide)
  obtain ⟨ps, ls, ss, fin, fuel, fan⟩ := c
  clear hw
  simp only at *
  go_enter Tryd.func25, Tryd.ntmps25
  go_wp2_with first | ((with_reducible apply wps_boxa S); (case hx => rfl); clear S; intro bx wz S)
  go_loopw [3] (fun i wr => FewRel bx #[.slice aP ps.length cP, .slice aL ls.length cL, .slice aS ss.length cS, .int .i64 fin, .int .i64 fuel, .int .i64 fan] (.slice aP ps.length cP) hs ps w i wr) (fun i _ => ps.length - (intOf i).toNat)
  case atStart => exact ⟨0, Nat.zero_le _, rfl, fun q y h => by omega, S⟩
  case round =>
    clear S
    obtain ⟨j, hj, rfl, Hz, S⟩ := hrel
    by_cases hlt : j < ps.length
    · obtain ⟨p, hp⟩ : ∃ p, ps[j]? = some p := ⟨_, List.getElem?_eq_getElem hlt⟩
      obtain ⟨v, hv⟩ : ∃ v, hs[j]? = some v := ⟨_, List.getElem?_eq_getElem (by omega)⟩
      obtain ⟨R, o, rfl⟩ : ∃ R o, aP = some ⟨R, o, none⟩ := (S.sl 2 rfl).elim fun F h => h.head (by omega)
      have hlt2 : (j : Int) < ps.length := by omega
      obtain ⟨av, cv, rfl, _⟩ := (S.sls 1 rfl).elim fun F h => (h.2 j v p hv hp).form
      have Hp := Lib.hid hp
      have Hv := Lib.hid hv
      clear hp hv
      by_cases h8 : (80 : Int) < p.length
      · go_wp2_with first | ((with_reducible apply wps_load_el S 2 (hj := Hv.out) (q := 0) (u := (.slice av p.length cv))); (case hx | hi => rfl); (case hn => omega); (case hu => rfl); (case hT => decide +kernel)) | ((with_reducible apply wps_load S 0); (case hx | hi | hu => rfl); (case hT => decide +kernel))
        go_ret
        refine ⟨ret_bool ?_, S.below⟩
        symm
        rw [Bool.eq_false_iff]
        intro h
        have := (few_iff.1 h).1 p (List.mem_of_getElem? Hp.out)
        omega
      · go_wp2_with first | ((with_reducible apply wps_load_el S 2 (hj := Hv.out) (q := 0) (u := (.slice av p.length cv))); (case hx | hi => rfl); (case hn => omega); (case hu => rfl); (case hT => decide +kernel)) | ((with_reducible apply wps_load S 0); (case hx | hi | hu => rfl); (case hT => decide +kernel))
        go_roundw
        case rel => exact ⟨j + 1, by omega, by go_num, snoc_all Hz.out Hp.out (by omega), S⟩
        case measure => first | (simp [intOf]; done) | (simp [intOf]; omega)
    · obtain rfl : j = ps.length := by omega
      have HA : Hid ((ps.all fun p => decide (p.length ≤ 80)) = true) := by
        show _ = _
        rw [List.all_eq_true]; intro p hp; simpa using all_of Hz.out p hp
      by_cases k1 : (ps.length : Int) ≤ 40
      · by_cases k2 : (ls.length : Int) ≤ 40
        · go_wp2_with first | ((with_reducible apply wps_load S 0); (case hx | hi | hu => rfl); (case hT => decide +kernel))
          go_ret
          exact ⟨ret_bool (by simp only [fewB]; rw [HA.out, decide_eq_true (by omega : ps.length ≤ 40), decide_eq_true (by omega : ls.length ≤ 40)]; simp; try omega), S.below⟩
        · go_wp2_with first | go_skip | ((with_reducible apply wps_load S 0); (case hx | hi | hu => rfl); (case hT => decide +kernel))
          go_ret
          exact ⟨ret_bool (by simp only [fewB]; rw [HA.out, decide_eq_false (by omega : ¬ ls.length ≤ 40)]; simp), S.below⟩
      · go_wp2_with first | go_skip | ((with_reducible apply wps_load S 0); (case hx | hi | hu => rfl); (case hT => decide +kernel))
        go_ret
        exact ⟨ret_bool (by simp only [fewB]; rw [decide_eq_false (by omega : ¬ ps.length ≤ 40)]; simp), S.below⟩
end Go.Proofs.YtfiiaechippboaaDoor
/- Plain: the events that are there at first, in order. No program in sight. -/
namespace Go.Proofs.YtfiiaechippboaaDoor
open Go Go.RowKit Mem

def evsOf (c : Cfg) : List Event := sortE (startsFrom 0 c.starts)
/-- A configuration that may be. -/
structure CfgOk (c : Cfg) : Prop where
  sizes : sizesOk c
  starts : c.starts.length ≤ 256
  progs : ∀ p ∈ c.programs, codeE p = 0
  lps : ∀ p ∈ c.lps, 0 ≤ p.program ∧ p.program < c.programs.length
  dst : ∀ s ∈ c.starts, 0 ≤ s.dst ∧ s.dst < c.lps.length
  at_ : ∀ s ∈ c.starts, 0 ≤ s.at_ ∧ s.at_ ≤ c.fin
end Go.Proofs.YtfiiaechippboaaDoor
/- 's = append(s, e)' where the bytes are bounded. Over any program. -/
namespace Go.Proofs.YtfiiaechippboaaDoor.Mem
open Go Go.RowKit Reg
section
variable {P : Program} {ops : Array Oper} {rest : List Oper} {a : Act} {Q : Exit → Act → World → Prop} {d : Option Tmp} {tt : TypeId} {p : String} {af : Array Edge} {gd : Option (Nat × Bool)} {x y : Operand}
variable {G : Nat → Prop} {w0 w : World} {L : List Asn}
theorem wps_append1B {α : Type} {sh : Bool} {T E E' : TypeId} {enc : α → List Value} {k bytes b : Nat} {cs : Array Value} {v : Value} {xs : List α} (el : Elem P T E k bytes) (hk : ∀ x, (enc x).length = k) (hone : ∀ x, ∀ u ∈ enc x, u.oneCell' = true) (hb1 : 1 ≤ bytes)
    (S : St G w0 w L) (i : Nat) (hi : L[i]? = some (Own E enc k v xs)) (j : Nat) (hj : L[j]? = some (Blk sh b cs E')) (e : α) (hx : a.eval x = v) (hy : a.eval y = .slice (some ⟨b, 0, none⟩) 1 1) (he : enc e = cs.toList) (hl : (xs.length + 1) * bytes ≤ 140737488355328)
    (next : ∀ ad n c w', Hid (n = xs.length + 1) → St G w0 w' (L.set i (Own E enc k (.slice ad n c) (xs ++ [e]))) → wpList P ops Q rest (a.put d (.slice ad n c)) w') (hgd : gOk gd ops a = true := by with_unfolding_all rfl) :
    wpList P ops Q ({ dst := d, op := .call { callee := .builtin .append, args := #[x, y], argTypes := #[T, T] }, type := tt, pos := p, after := af, guard := gd } :: rest) a w := by
  have h2 : xs.length + 1 ≤ (xs.length + 1) * bytes := Nat.le_mul_of_pos_right _ hb1
  exact wps_append (hgd := hgd) el hk hone S i hi (blk_rd [e] 1 (S.blk j hj) (by simpa [flatE] using he) rfl) (by simp [maxLen]; omega) (by simp; omega) hx hy fun v' w' S' => by
    have hl' : i < L.length := (List.getElem?_eq_some_iff.1 hi).1
    obtain ⟨F, h⟩ := S'.get (i := i) (List.getElem?_set_self hl')
    obtain ⟨ad, c, rfl⟩ := h.1.form
    exact next _ _ _ _ (by simp [Hid]) S'
end
end Go.Proofs.YtfiiaechippboaaDoor.Mem
/- The walks of boomeranglaw05.Plain and the law's same. -/
namespace Go.Proofs.YtfiiaechippboaaDoor
open Go Go.RowKit Reg Mem

set_option maxRecDepth 100000 in
theorem elem_RIn : Elem Tryd.prog 86 123 5 40 := ⟨_, .agg #[.int .i64 0, .int .i64 0, .int .i64 0, .int .i64 0, .int .i64 0], Tryd.underlying86, rfl, by kernel_rfl, by kernel_rfl, by kernel_rfl, by kernel_rfl, by omega⟩
def PlRel (v out : Value) (p : List Instr) (w : World) (i : Value) (wr : World) : Prop :=
  ∃ j : Nat, j ≤ p.length ∧ i = .int .i64 j ∧ St (fun _ => False) w wr [Own 123 Instr.cells 5 out (p.take j), Sl true Instr.cells 5 v p]
/-- What Plain leaves. -/
def PlainPost (p : List Instr) (w : World) (e : Ending) (w' : World) : Prop :=
  ∃ ad c, e = .returned (.slice ad p.length c) ∧ St (fun _ => False) w w' [Own 123 Instr.cells 5 (.slice ad p.length c) p]
set_option maxRecDepth 100000 in
set_option maxHeartbeats 4000000 in
theorem lplain_calls (v : Value) (p : List Instr) (w : World) (F : Nat → Prop) (h : (Sl true Instr.cells 5 v p).at_ w F) (hn : p.length * 40 ≤ 140737488351232) : Calls Tryd.prog 41 #[v] w (PlainPost p w) := by
  have S : St (fun _ => False) w w [Sl true Instr.cells 5 v p] := (St.init _ w).share rfl rfl h
  obtain ⟨ad, cp, rfl, _⟩ := (S.sl 0 rfl).elim fun _ h => h.form
  clear h
  replace S := S.nil 123 Instr.cells 5
  go_enter Tryd.func41, Tryd.ntmps41
  go_wp2_with first | ((with_reducible apply wps_load S 0); (case hx | hi | hu => rfl); (case hT => decide +kernel))
  go_loopw [3, 4] (fun out i wr => PlRel (.slice ad p.length cp) out p w i wr) (fun _ i _ => p.length - (intOf i).toNat)
  case atStart => exact ⟨0, Nat.zero_le _, rfl, S⟩
  case round =>
    clear S
    obtain ⟨j, hj, rfl, S⟩ := hrel
    obtain ⟨F0, hF0⟩ := S.get (i := 0) rfl
    obtain ⟨ad0, c0, rfl⟩ := hF0.1.form
    clear hF0
    by_cases hlt : j < p.length
    · obtain ⟨x, hx⟩ : ∃ x, p[j]? = some x := ⟨_, List.getElem?_eq_getElem hlt⟩
      obtain ⟨R, o, rfl⟩ : ∃ R o, ad = some ⟨R, o, none⟩ := (S.sl 1 rfl).elim fun F h => h.head (by omega)
      have hlt2 : (j : Int) < p.length := by omega
      have HT : Hid (p.take (j + 1) = p.take j ++ [x]) := by show _ = _; rw [List.take_add_one, hx]; rfl
      have htl : ((p.take j).length + 1) * 40 ≤ 140737488355328 := by rw [List.length_take, Nat.min_eq_left hj]; omega
      have hlj : (p.take j).length = j := by simp; omega
      rw [hlj] at S
      rw [hlj]
      have Hx := Lib.hid hx
      have Hlj := Lib.hid hlj
      clear hx hlj
      go_wp2_with first | ((with_reducible apply wps_load S 0); (case hx | hi | hu => rfl); (case hT => decide +kernel))
      replace S := S.pick [1, 0] rfl
      simp only [pick, nth] at S
      (refine wp_region_wt (soft := [0, 1, 2, 3, 4, 5, 6, 7, 8, 9, 10, 11, 12, 13, 14, 15, 16, 17, 18, 19, 20, 21, 22, 23, 24, 25, 26]) (L := [_]) (T := [_]) S ?hm ?hB ?_); (case hm => kernel_rfl); (case hB => decide +kernel); clear S
      iterate 27
        (with_reducible apply softs_cons)
        (case hw =>
          (with_reducible apply soft_of); (case hi => rfl)
          intro T wz S
          simp only [List.cons_append, List.nil_append] at S
          go_wp2_with first | ((with_reducible apply wps_load_el S 0 (hj := Hx.out) (q := 0) (u := .int .i64 x.op)); (case hx | hi => rfl); (case hn => omega); (case hu => rfl); (case hT => decide +kernel)) | ((with_reducible apply wps_load_el S 0 (hj := Hx.out) (q := 1) (u := .int .i64 x.a)); (case hx | hi => rfl); (case hn => omega); (case hu => rfl); (case hT => decide +kernel)) | ((with_reducible apply wps_load_el S 0 (hj := Hx.out) (q := 2) (u := .int .i64 x.b)); (case hx | hi => rfl); (case hn => omega); (case hu => rfl); (case hT => decide +kernel)) | ((with_reducible apply wps_load_el S 0 (hj := Hx.out) (q := 3) (u := .int .i64 x.c)); (case hx | hi => rfl); (case hn => omega); (case hu => rfl); (case hT => decide +kernel)) | ((with_reducible apply wps_load_el S 0 (hj := Hx.out) (q := 4) (u := .int .i64 x.d)); (case hx | hi => rfl); (case hn => omega); (case hu => rfl); (case hT => decide +kernel)) | ((with_reducible refine tot_done ?ht ?_); (case ht => kernel_rfl))
          exact ⟨rfl, S⟩)
        (case hs => exact ⟨_, rfl, by kernel_rfl⟩)
      refine softs_nil ?_
      (with_reducible apply W_hard1 (i := 27)); (case hn => rfl); (case hr => decide +kernel)
      intro wz S
      (with_reducible apply hard_of); (case hi => rfl)
      simp only [List.cons_append, List.nil_append] at S
      go_wp2_with first | ((with_reducible refine tot_done ?ht ?_); (case ht => kernel_rfl)) | ((with_reducible apply wps_build1a (T := 86) (E := 123) S); (case hx => rfl); (case hr => intro w; kernel_rfl); clear S; intro bz wz S)
      refine ⟨_, S.pick [1, 2, 0] rfl, ?_⟩
      (with_reducible apply W_hard1 (i := 28)); (case hn => rfl); (case hr => decide +kernel)
      clear S
      intro wz S
      (with_reducible apply hard_of); (case hi => rfl)
      simp only [List.cons_append, List.nil_append] at S
      try simp only [pick, nth] at S
      (with_reducible apply wps_append1B elem_RIn incells inone (by decide) S 1 (j := 2) (e := x))
      (case hi => rfl)
      (case hj => rfl)
      (case he => rfl)
      (case hl => first | omega | (simp; omega))
      (case hx => rfl)
      (case hy => rfl)
      clear S
      intro az nz cz wz hnz S
      simp only [List.set_cons_succ, List.set_cons_zero] at S
      go_wp2_with first | ((with_reducible refine tot_done ?ht ?_); (case ht => kernel_rfl))
      refine ⟨_, S, ?_⟩
      (with_reducible apply W_hard1 (i := 29)); (case hn => rfl); (case hr => decide +kernel)
      clear S
      intro wz S
      (with_reducible apply hard_of); (case hi => rfl)
      go_wp2_with first | ((with_reducible refine tot_done ?ht ?_); (case ht => kernel_rfl))
      refine ⟨_, S, ?_⟩
      (with_reducible apply W_done); (case hn => rfl); (case hr => decide +kernel)
      clear S
      intro wz S
      simp only [List.cons_append, List.nil_append] at S
      try simp only [pick, nth] at S
      go_wp2_with first | ((with_reducible apply wps_load S 0); (case hx | hi | hu => rfl); (case hT => decide +kernel))
      go_roundw
      case rel => exact ⟨j + 1, by omega, by go_num, by rw [HT.out]; exact S.pick [1, 0] rfl⟩
      case measure => first | (simp [intOf]; done) | (simp [intOf]; omega)
    · obtain rfl : j = p.length := by omega
      rw [List.take_length] at S
      rw [List.take_length]
      go_wp2_with first | ((with_reducible apply wps_load S 0); (case hx | hi | hu => rfl); (case hT => decide +kernel))
      go_ret
      exact ⟨_, _, rfl, S.pick [0] rfl⟩
end Go.Proofs.YtfiiaechippboaaDoor
/- Slices that are owned and written, of which only their room is known; and several owned slices at once. Over any program. -/
namespace Go.Proofs.YtfiiaechippboaaDoor.Mem
open Go Go.RowKit Reg

/-- Each of these has its room in blocks of its own. -/
def RoomAt (k : Nat) (w : World) (F : Nat → Prop) (vs : List Value) : Prop :=
  ∀ (i : Nat) v, vs[i]? = some v → ∃ ad n c, v = .slice ad n c ∧ (0 < n → ∃ R cs t, ad = some ⟨R, 0, none⟩ ∧ F R ∧ w.heap[R]? = some (.cells cs t (0, 0)) ∧ n * k ≤ cs.size)
def Room (k : Nat) (vs : List Value) : Asn where
  sh := false
  at_ w F := RoomAt k w F vs ∧ ∀ b, F b → b < w.heap.size
  loc h hb := ⟨fun i v hi => by
    obtain ⟨ad, n, c, e, h2⟩ := h.1 i v hi
    refine ⟨ad, n, c, e, fun h0 => ?_⟩
    obtain ⟨R, cs, t, e1, h3, h4, h5⟩ := h2 h0
    exact ⟨R, cs, t, e1, h3, (hb R h3).trans h4, h5⟩, lt_loc h.2 hb⟩
  lt h := h.2
/-- Several slices that are owned. -/
def Ows {α : Type} (E : TypeId) (enc : α → List Value) (k : Nat) (vs : List Value) (xss : List (List α)) : Asn where
  sh := false
  at_ w F := (vs.length = xss.length ∧ ∀ (i : Nat) v xs, vs[i]? = some v → xss[i]? = some xs → ∃ Fi, (Own E enc k v xs).at_ w Fi ∧ ∀ b, Fi b → F b) ∧ ∀ b, F b → b < w.heap.size
  loc h hb := ⟨⟨h.1.1, fun i v xs hv hx => by
    obtain ⟨Fi, h1, h2⟩ := h.1.2 i v xs hv hx
    exact ⟨Fi, (Own _ _ _ v xs).loc h1 (fun b hb' => hb b (h2 b hb')), h2⟩⟩, lt_loc h.2 hb⟩
  lt h := h.2
section
variable {α : Type} {E : TypeId} {enc : α → List Value} {k : Nat} {G : Nat → Prop} {w0 w : World} {L : List Asn}
theorem St.owsNil (S : St G w0 w L) (E : TypeId) (enc : α → List Value) (k : Nat) : St G w0 w (Ows E enc k [] ([] : List (List α)) :: L) :=
  S.grow (F := fun _ => False) (Keep.refl _ _) ⟨⟨rfl, fun i v xs h => by simp at h⟩, fun _ h => h.elim⟩ (fun _ h => h.elim)
theorem St.owsSnoc {vs : List Value} {xss : List (List α)} {v : Value} {xs : List α} (S : St G w0 w (Own E enc k v xs :: Ows E enc k vs xss :: L)) : St G w0 w (Ows E enc k (vs ++ [v]) (xss ++ [xs]) :: L) :=
  S.merge _ rfl rfl rfl fun F F' h h' => by
    refine ⟨⟨by simp [h'.1.1], fun j u ys hu hy => ?_⟩, fun b hb => hb.elim ((Own E enc k v xs).lt h b) (h'.2 b)⟩
    by_cases hj : j < vs.length
    · rw [List.getElem?_append_left hj] at hu
      rw [List.getElem?_append_left (by rw [← h'.1.1]; exact hj)] at hy
      obtain ⟨Fi, h1, h2⟩ := h'.1.2 j u ys hu hy
      exact ⟨Fi, h1, fun b hb => .inr (h2 b hb)⟩
    · have hjl := (List.getElem?_eq_some_iff.1 hu).1
      simp at hjl
      obtain rfl : j = vs.length := by omega
      rw [List.getElem?_append_right (Nat.le_refl _)] at hu
      rw [List.getElem?_append_right (by rw [h'.1.1]; exact Nat.le_refl _)] at hy
      simp [h'.1.1] at hu hy
      subst hu; subst hy
      exact ⟨F, h, fun b hb => .inl hb⟩
theorem ows_sls (hk : ∀ x, (enc x).length = k) {vs : List Value} {xss : List (List α)} {F : Nat → Prop} (h : (Ows E enc k vs xss).at_ w F) : (Sls true enc k vs xss).at_ w F :=
  ⟨⟨h.1.1, fun i v xs hv hx => let ⟨_, h1, h2⟩ := h.1.2 i v xs hv hx; (own_sl (sh := true) hk h1).1.mono h2⟩, h.2⟩
variable {P : Program} {ops : Array Oper} {rest : List Oper} {a : Act} {Q : Exit → Act → World → Prop} {d : Option Tmp} {tt : TypeId} {p : String} {af : Array Edge} {gd : Option (Nat × Bool)} {x y : Operand}
end
end Go.Proofs.YtfiiaechippboaaDoor.Mem
/- Heads of slices as data; what 'few' gives. -/
namespace Go.Proofs.YtfiiaechippboaaDoor
open Go Go.RowKit Reg Mem

theorem few_midK {c : Cfg} (h : fewB c = true) : Mid c := by
  have := few_iff.1 h; exact ⟨by omega, by omega, by omega⟩
theorem few_midK2 {c : Cfg} (h : fewB c = true) : ∀ p ∈ c.programs, p.length ≤ 65536 := fun p hp => by
  have := (few_iff.1 h).1 p hp; omega
/-- A slice's head. -/
structure Hd where
  ad : Option Addr
  n : Nat
  c : Nat
def Hd.val (h : Hd) : Value := .slice h.ad h.n h.c
def hcell (h : Hd) : List Value := [.slice h.ad h.n h.c]
theorem hcells : ∀ h : Hd, (hcell h).length = 1 := fun _ => rfl
theorem hone : ∀ h : Hd, ∀ u ∈ hcell h, u.oneCell' = true := fun _ => by simp [hcell, Value.oneCell']
theorem slat_map {α β : Type} {enc : α → List Value} {enc' : β → List Value} {k : Nat} {w : World} {F : Nat → Prop} {v : Value} {xs : List α} (f : α → β) (hf : ∀ x, enc' (f x) = enc x) (h : SlAt enc k w F v xs) : SlAt enc' k w F v (xs.map f) := by
  obtain ⟨a, c, e, h1, h2, h3⟩ := h
  refine ⟨a, c, by simpa using e, by simpa using h1, h2, fun i y hi => ?_⟩
  rw [List.getElem?_map] at hi
  cases hx : xs[i]? with
  | none => rw [hx] at hi; cases hi
  | some x =>
    rw [hx] at hi; simp at hi; subst hi
    obtain ⟨R, o, e1, hR, hc⟩ := h3 i x hx
    exact ⟨R, o, e1, hR, fun j u hj => hc j u (by rw [← hf]; exact hj)⟩
end Go.Proofs.YtfiiaechippboaaDoor

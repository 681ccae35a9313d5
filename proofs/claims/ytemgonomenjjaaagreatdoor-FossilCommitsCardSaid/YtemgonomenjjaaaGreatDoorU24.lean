import Derived.Test.YtemgonomenjjaaaGreatDoorU23
import Derived.Test.YtemgonomenjjaaaGreatDoorU22
import Derived.Test.YtemgonomenjjaaaGreatDoorU14
import Derived.Test.YtemgonomenjjaaaGreatDoorU17
import Derived.Test.YtemgonomenjjaaaGreatDoorU06
import Derived.Test.YtemgonomenjjaaaGreatDoorU08
import Derived.Deep.Cut
/- The walk of the law's awake (chapter 16). -/
namespace Go.Proofs.YtemgonomenjjaaaGreatDoor
open Go Go.RowKit Reg Mem

def wk16 : Cfg := ⟨[[]], [⟨0, ⟨0, 0, 0, 0⟩⟩, ⟨0, ⟨0, 0, 0, 0⟩⟩], [], 9, 1, 0⟩
def wk16l : List Event := [⟨⟨3, 0, -1, 0⟩, 1, 0, 0⟩, ⟨⟨2, 0, -1, 0⟩, 0, 0, 0⟩]
theorem wk16_ok : cfgE wk16 = 0 := by decide +kernel
theorem wk16_mid : Mid wk16 := ⟨by decide, by decide, by decide⟩
theorem wk16_mid2 : ∀ p ∈ wk16.programs, p.length ≤ 65536 := by decide
theorem wk16_fine : Fine wk16.lps.length 0 5 wk16l := wrongL_fine.1 (by decide +kernel)
theorem wk16_run : (timesL wk16 (sortT wk16l) (newL wk16).ss).2.map (fun b => (b.at_, b.lp)) = [(2, 0), (3, 1)] := by decide +kernel
set_option maxRecDepth 100000 in
set_option maxHeartbeats 8000000 in
theorem awake16_calls (w : World) (F : Nat → Prop) (ht : Tab.at_ w F) : Calls Tryz.prog 6 #[] w fun r w' => r = .returned (.bool true) ∧ Below w.heap.size w w' := by
  have S : St (fun _ => False) w w [Tab] := (St.init _ w).share rfl rfl ht
  clear ht
  replace S := (S.nil 108 Start.cells 4).nil 115 Instr.cells 5
  obtain ⟨bs, HBS⟩ : ∃ bs, Hid ((timesL wk16 (sortT wk16l) (newL wk16).ss).2 = bs) := ⟨_, rfl⟩
  obtain ⟨g1, HG1⟩ : ∃ g, Hid (comL wk16 (newL wk16) 5 wk16l = g) := ⟨_, rfl⟩
  have HM : Hid (bs.map (fun b => (b.at_, b.lp)) = [(2, 0), (3, 1)]) := Lib.hid (by rw [← HBS.out]; exact wk16_run)
  have HC := Lib.hid fun (X R : Nat) (vs hs : List Value) (v : Value) (w : World) (F : Nat → Prop) (S0 : St F w w [logA X R (newL wk16), Sl true Event.cells 7 v wk16l, ModA true 84 R vs hs wk16, Tab]) =>
    commit_calls X R vs hs wk16 (newL wk16) 5 v wk16l w F S0 wk16_ok (by decide) rfl (by decide) (by decide) wk16_fine
  rw [HBS.out, HG1.out] at HC
  have HW := Lib.hid fun (X R : Nat) (v : Value) (w : World) (F : Nat → Prop) (S0 : St F w w [logA X R g1, Sl true Event.cells 7 v []]) =>
    commit_wrong X R g1 4 v [] w F S0 (by decide) 18 (by rw [← HG1.out]; unfold wrongL; rw [if_pos (.inl (by decide))]) (by decide)
  go_enter Tryz.func6, Tryz.ntmps6
  go_wp2_with first | ((with_reducible apply wps_buildSlice (T := 22) (E := 105) (cs := #[.slice none 0 0]) S); (case hr => intro w; kernel_rfl); clear S; intro bh wz S) | ((with_reducible apply wps_buildSlice (T := 23) (E := 74) (cs := #[.int .i64 0, .int .i64 0, .int .i64 0, .int .i64 0, .int .i64 0, .int .i64 0, .int .i64 0, .int .i64 0, .int .i64 0, .int .i64 0]) S); (case hr => intro w; kernel_rfl); clear S; intro bp wz S)
  have hcfg : (CfgA true [.slice (some ⟨bh, 0, none⟩) 1 1, .slice (some ⟨bp, 0, none⟩) 2 2, .slice none 0 0, .int .i64 9, .int .i64 1, .int .i64 0] [.slice none 0 0] wk16).at_ wz (fun b => b < wz.heap.size) :=
    cfg_any (c := wk16) (blk_sl (n := 1) [.slice none 0 0] vcells (S.get (i := 1) rfl).choose_spec rfl rfl) (blk_sl (n := 2) wk16.lps plcells (S.get (i := 0) rfl).choose_spec rfl rfl) (own_sl (sh := true) stcells (S.get (i := 3) rfl).choose_spec)
      (sls_one (own_sl (sh := true) incells (S.get (i := 2) rfl).choose_spec))
  refine Calls.mono (new_calls _ _ wk16 _ _ _ hcfg (S.get (i := 4) rfl).choose_spec wk16_mid wk16_mid2) ?_
  clear hcfg
  rintro e wz (⟨h, _⟩ | ⟨_, R, vs, hs, rfl, T⟩)
  · exact absurd wk16_ok h
  replace S := ((S.join T rfl).modShare 0 rfl).pick [0, 5] rfl
  repeat (first | simp only at S | simp only [pick] at S | simp only [nth] at S | simp only [List.set_cons_succ] at S | simp only [List.set_cons_zero] at S | simp only [List.setIfInBounds_toArray] at S | simp only [setAll] at S | simp only [List.cons_append] at S | simp only [List.nil_append] at S | simp only [List.append_nil] at S)
  clear T
  go_upto_region 5 with first | (go_at_call 7; refine Calls.mono (lnew_calls R vs hs wk16 _ _ (S.get (i := 0) rfl).choose_spec (by decide)) ?_; rintro e wz ⟨X, rfl, T⟩; replace S := S.join T rfl; clear T; simp only [List.cons_append, List.nil_append] at S)
  go_upto_region 6 with first | ((with_reducible apply wps_buildSlice (T := 45) (E := 78) (cs := #[.int .i64 3, .int .i64 0, .int .i64 (-1), .int .i64 0, .int .i64 1, .int .i64 0, .int .i64 0, .int .i64 2, .int .i64 0, .int .i64 (-1), .int .i64 0, .int .i64 0, .int .i64 0, .int .i64 0]) S); (case hr => intro w; kernel_rfl); clear S; intro be wz S) | (go_at_call 12; replace S := S.weak (i := 0) (A' := Sl true Event.cells 7 (.slice (some ⟨be, 0, none⟩) 2 2) wk16l) rfl (fun e => by cases e) (fun F h => ⟨F, fun _ hb => hb, blk_sl (n := 2) wk16l ecells h rfl rfl⟩); simp only [List.set_cons_zero] at S; obtain ⟨Fz, hF, hBk⟩ := S.lend [1] [0, 2, 3] [0, 2, 3] rfl rfl rfl; simp only [List.cons_append, List.nil_append, pick, nth] at hF hBk; refine Calls.mono (HC.out X R vs hs _ _ _ hF) ?_; rintro e wz ⟨ar, cr, lb, rfl, hlb, T⟩; replace S := hBk _ _ T rfl; clear hBk hF T; simp only [List.cons_append, List.nil_append] at S)
  replace S := (S.nil 78 Event.cells 7).freeze true 0 ecells rfl
  simp only [List.set_cons_zero] at S
  have hbl : bs.length = 2 := by have := congrArg List.length HM.out; rw [List.length_map] at this; exact this
  rw [hbl] at S ⊢
  clear hbl
  obtain ⟨x0, x1, rfl⟩ : ∃ x0 x1, lb = [x0, x1] := by
    have h1 : lb.length = 2 := by have := congrArg List.length (hlb ▸ HM.out); simpa using this
    match lb, h1 with
    | [a, b], _ => exact ⟨a, b, rfl⟩
  have hm := HM.out
  rw [← hlb] at hm
  simp only [List.map_cons, List.map_nil, List.cons.injEq, Prod.mk.injEq, and_true] at hm
  have f0 : (x0.b.at_ == 2) = true := by simp [hm.1.1]
  have f1 : (x0.b.lp == 0) = true := by simp [hm.1.2]
  have f2 : (x1.b.at_ == 3) = true := by simp [hm.2.1]
  have f3 : (x1.b.lp == 1) = true := by simp [hm.2.2]
  obtain ⟨RB, cB, e⟩ := own_hd 2 S rfl (by simp)
  simp only [Value.slice.injEq] at e
  obtain ⟨rfl, hq, rfl⟩ := e
  clear hm hlb HM hq
  have hj0 : ([x0, x1] : List BatV)[0]? = some x0 := rfl
  have hj1 : ([x0, x1] : List BatV)[1]? = some x1 := rfl
  have Hj0 := Lib.hid hj0
  have Hj1 := Lib.hid hj1
  clear hj0 hj1
  go_wp2_with first | (go_at_call 12; obtain ⟨Fz, hF, hBk⟩ := S.lend [1] [0] [2] rfl rfl rfl; simp only [List.cons_append, List.nil_append, pick, nth] at hF hBk; refine Calls.mono (HW.out X R _ _ _ hF) ?_; rintro e wz ⟨rfl, T⟩; replace S := hBk _ _ T rfl; clear hBk hF T; simp only [List.cons_append, List.nil_append] at S) | ((with_reducible apply wps_load_own bvcells S 1 (hj := Hj0.out) (q := 0) (u := .int .i64 x0.b.at_)); (case hx | hi => rfl); (case hn => omega); (case hu => rfl); (case hT => decide +kernel)) | ((with_reducible apply wps_load_own bvcells S 1 (hj := Hj0.out) (q := 1) (u := .int .i64 x0.b.lp)); (case hx | hi => rfl); (case hn => omega); (case hu => rfl); (case hT => decide +kernel)) | ((with_reducible apply wps_load_own bvcells S 1 (hj := Hj1.out) (q := 0) (u := .int .i64 x1.b.at_)); (case hx | hi => rfl); (case hn => omega); (case hu => rfl); (case hT => decide +kernel)) | ((with_reducible apply wps_load_own bvcells S 1 (hj := Hj1.out) (q := 1) (u := .int .i64 x1.b.lp)); (case hx | hi => rfl); (case hn => omega); (case hu => rfl); (case hT => decide +kernel))
  go_ret
  exact ⟨rfl, S.below⟩
end Go.Proofs.YtemgonomenjjaaaGreatDoor
/- The walk of the law's Events (chapter 10). -/
namespace Go.Proofs.YtemgonomenjjaaaGreatDoor
open Go Go.RowKit Reg Mem

def EvEqRelT (v1 v2 : Value) (xs ys : List Event) (w : World) (i : Value) (wr : World) : Prop :=
  ∃ j : Nat, j ≤ xs.length ∧ i = .int .i64 j ∧ (∀ q : Nat, q < j → xs[q]? = ys[q]?) ∧ St (fun _ => False) w wr [Sl true Event.cells 7 v2 ys, Sl true Event.cells 7 v1 xs]
set_option maxRecDepth 100000 in
set_option maxHeartbeats 4000000 in
theorem evseq_callsT (v1 v2 : Value) (xs ys : List Event) (w : World) (F1 F2 : Nat → Prop) (h1 : (Sl true Event.cells 7 v1 xs).at_ w F1) (h2 : (Sl true Event.cells 7 v2 ys).at_ w F2) (hn : xs.length ≤ 65536) (hn2 : ys.length ≤ 65536) :
    Calls Tryz.prog 16 #[v1, v2] w fun r w' => r = .returned (.bool (decide (xs = ys))) ∧ Below w.heap.size w w' := by
  have S : St (fun _ => False) w w [Sl true Event.cells 7 v2 ys, Sl true Event.cells 7 v1 xs] := ((St.init _ w).share rfl rfl h1).share rfl rfl h2
  obtain ⟨ad2, c2, rfl, _⟩ := (S.sl 0 rfl).elim fun _ h => h.form
  obtain ⟨ad1, c1, rfl, _⟩ := (S.sl 1 rfl).elim fun _ h => h.form
  clear h1 h2
  by_cases hl : xs.length = ys.length
  · have hl2 : (xs.length : Int) = ys.length := by omega
    have HL := Lib.hid hl
    clear hl
    go_enter Tryz.func16, Tryz.ntmps16
    go_wp2_with first | ((with_reducible apply wps_loada (T := 78) (k := 7) S 3); (case hx | hi => rfl); (case hk => exact Nat.le_of_ble_eq_true rfl); (case hT => decide +kernel))
    go_loopw [5] (fun i wr => EvEqRelT (.slice ad1 xs.length c1) (.slice ad2 ys.length c2) xs ys w i wr) (fun i _ => xs.length - (intOf i).toNat)
    case atStart => exact ⟨0, Nat.zero_le _, rfl, fun q h => by omega, S⟩
    case round =>
      clear S
      obtain ⟨j, hj, rfl, he, S⟩ := hrel
      have He := Lib.hid he
      clear he
      by_cases hlt : j < xs.length
      · obtain ⟨x, hx⟩ : ∃ x, xs[j]? = some x := ⟨_, List.getElem?_eq_getElem hlt⟩
        obtain ⟨y, hy⟩ : ∃ y, ys[j]? = some y := ⟨_, List.getElem?_eq_getElem (by have := HL.out; omega)⟩
        obtain ⟨R1, o1, rfl⟩ : ∃ R o, ad1 = some ⟨R, o, none⟩ := (S.sl 1 rfl).elim fun F h => h.head (by omega)
        obtain ⟨R2, o2, rfl⟩ : ∃ R o, ad2 = some ⟨R, o, none⟩ := (S.sl 0 rfl).elim fun F h => h.head (by have := HL.out; omega)
        have hlt2 : (j : Int) < xs.length := by omega
        have hlt3 : (j : Int) < ys.length := by omega
        have hlt4 : j < ys.length := by omega
        by_cases hxy : x = y
        · have HN := Lib.hid ((ev_nceqs x y).trans (show _ = false by simp [hxy]))
          have HXY := Lib.hid hxy
          clear hxy
          have Hx := Lib.hid hx
          have Hy := Lib.hid hy
          clear hx hy
          go_wp2_with first | ((with_reducible apply wps_loada_el S 1 (hj := Hx.out) (q := 0) (vs := [.int .i64 x.key.at_, .int .i64 x.key.src, .int .i64 x.key.sent, .int .i64 x.key.no, .int .i64 x.dst, .int .i64 x.kind, .int .i64 x.data]) (m := 7)); (case hx | hi => rfl); (case hn => omega); (case hm | hv => rfl); (case hT => decide +kernel)) | ((with_reducible apply wps_loada_el S 0 (hj := Hy.out) (q := 0) (vs := [.int .i64 y.key.at_, .int .i64 y.key.src, .int .i64 y.key.sent, .int .i64 y.key.no, .int .i64 y.dst, .int .i64 y.kind, .int .i64 y.data]) (m := 7)); (case hx | hi => rfl); (case hn => omega); (case hm | hv => rfl); (case hT => decide +kernel)) | ((with_reducible apply wpList_neq_agg (t := 78) (ks := [.int .i64, .int .i64, .int .i64, .int .i64, .int .i64, .int .i64, .int .i64]) (b := _)); (case hx | hy => rfl); (case hl | ha | hg => kernel_rfl); (case hfx | hfy => rfl); (case hb => exact HN.out)) | ((with_reducible refine tot_done ?ht ?_); (case ht => kernel_rfl)) | ((with_reducible apply wps_text S); (case hm => kernel_rfl); (case hB => decide +kernel); clear S; intro wz S)
          go_roundw
          case rel =>
            refine ⟨j + 1, by omega, by go_num, fun q hq => ?_, S⟩
            by_cases e : q = j
            · subst e; rw [Hx.out, Hy.out, HXY.out]
            · exact He.out q (by omega)
          case measure => simp [intOf]; omega
        · have HN := Lib.hid ((ev_nceqs x y).trans (show _ = true by simp [hxy]))
          have HXY := Lib.hid hxy
          clear hxy
          have Hx := Lib.hid hx
          have Hy := Lib.hid hy
          clear hx hy
          go_wp2_with first | ((with_reducible apply wps_loada_el S 1 (hj := Hx.out) (q := 0) (vs := [.int .i64 x.key.at_, .int .i64 x.key.src, .int .i64 x.key.sent, .int .i64 x.key.no, .int .i64 x.dst, .int .i64 x.kind, .int .i64 x.data]) (m := 7)); (case hx | hi => rfl); (case hn => omega); (case hm | hv => rfl); (case hT => decide +kernel)) | ((with_reducible apply wps_loada_el S 0 (hj := Hy.out) (q := 0) (vs := [.int .i64 y.key.at_, .int .i64 y.key.src, .int .i64 y.key.sent, .int .i64 y.key.no, .int .i64 y.dst, .int .i64 y.kind, .int .i64 y.data]) (m := 7)); (case hx | hi => rfl); (case hn => omega); (case hm | hv => rfl); (case hT => decide +kernel)) | ((with_reducible apply wpList_neq_agg (t := 78) (ks := [.int .i64, .int .i64, .int .i64, .int .i64, .int .i64, .int .i64, .int .i64]) (b := _)); (case hx | hy => rfl); (case hl | ha | hg => kernel_rfl); (case hfx | hfy => rfl); (case hb => exact HN.out)) | ((with_reducible refine tot_done ?ht ?_); (case ht => kernel_rfl)) | ((with_reducible apply wps_text S); (case hm => kernel_rfl); (case hB => decide +kernel); clear S; intro wz S)
          go_ret
          exact ⟨ret_bool (by symm; rw [decide_eq_false_iff_not]; rintro rfl; rw [Hx.out] at Hy; exact HXY.out (Option.some.inj Hy.out)), S.below⟩
      · obtain rfl : j = xs.length := by omega
        go_wp2_with first | ((with_reducible apply wps_loada (T := 78) (k := 7) S 3); (case hx | hi => rfl); (case hk => exact Nat.le_of_ble_eq_true rfl); (case hT => decide +kernel))
        go_ret
        refine ⟨ret_bool ?_, S.below⟩
        symm
        rw [decide_eq_true_eq]
        refine List.ext_getElem? fun q => ?_
        by_cases hq : q < xs.length
        · exact He.out q hq
        · have := HL.out
          rw [List.getElem?_eq_none (by omega), List.getElem?_eq_none (by omega)]
  · have hl2 : ¬ (xs.length : Int) = ys.length := by omega
    have HL := Lib.hid hl
    clear hl
    go_enter Tryz.func16, Tryz.ntmps16
    go_wp2_with first | ((with_reducible apply wps_loada (T := 78) (k := 7) S 3); (case hx | hi => rfl); (case hk => exact Nat.le_of_ble_eq_true rfl); (case hT => decide +kernel))
    go_ret
    exact ⟨ret_bool (by symm; rw [decide_eq_false_iff_not]; rintro rfl; exact HL.out rfl), S.below⟩
end Go.Proofs.YtemgonomenjjaaaGreatDoor
/- The walks of the law's Batches and States (chapter 16), where both are one. -/
namespace Go.Proofs.YtemgonomenjjaaaGreatDoor
open Go Go.RowKit Reg Mem

theorem sls_elB {α : Type} {sh : Bool} {enc : α → List Value} {k : Nat} {vs : List Value} {xss : List (List α)} {w : World} {F : Nat → Prop} (h : (Sls sh enc k vs xss).at_ w F) {j : Nat} {v : Value} {xs : List α} (hv : vs[j]? = some v) (hx : xss[j]? = some xs) : (Sl true enc k v xs).at_ w F :=
  ⟨h.1.2 j v xs hv hx, h.2⟩
def StsRel (v1 v2 : Value) (ss : List State) (w : World) (i : Value) (wr : World) : Prop :=
  ∃ j : Nat, j ≤ ss.length ∧ i = .int .i64 j ∧ St (fun _ => False) w wr [Sl true State.cells 4 v1 ss, Sl true State.cells 4 v2 ss]
set_option maxRecDepth 100000 in
set_option maxHeartbeats 4000000 in
theorem stseq_calls (v1 v2 : Value) (ss : List State) (w : World) (F1 F2 : Nat → Prop) (h1 : (Sl true State.cells 4 v1 ss).at_ w F1) (h2 : (Sl true State.cells 4 v2 ss).at_ w F2) (hn : ss.length ≤ 65536) :
    Calls Tryz.prog 13 #[v1, v2] w fun r w' => r = .returned (.bool true) ∧ Below w.heap.size w w' := by
  have S : St (fun _ => False) w w [Sl true State.cells 4 v1 ss, Sl true State.cells 4 v2 ss] := ((St.init _ w).share rfl rfl h2).share rfl rfl h1
  obtain ⟨a1, c1, rfl, _⟩ := (S.sl 0 rfl).elim fun _ h => h.form
  obtain ⟨a2, c2, rfl, _⟩ := (S.sl 1 rfl).elim fun _ h => h.form
  clear h1 h2
  go_enter Tryz.func13, Tryz.ntmps13
  go_wp2_with first | ((with_reducible apply wps_loada (T := 52) (k := 4) S 0); (case hx | hi => rfl); (case hk => exact Nat.le_of_ble_eq_true rfl); (case hT => decide +kernel))
  go_loopw [5] (fun i wr => StsRel (.slice a1 ss.length c1) (.slice a2 ss.length c2) ss w i wr) (fun i _ => ss.length - (intOf i).toNat)
  case atStart => exact ⟨0, Nat.zero_le _, rfl, S⟩
  case round =>
    clear S
    obtain ⟨j, hj, rfl, S⟩ := hrel
    by_cases hlt : j < ss.length
    · obtain ⟨x, hx⟩ : ∃ x, ss[j]? = some x := ⟨_, List.getElem?_eq_getElem hlt⟩
      obtain ⟨R1, o1, rfl⟩ : ∃ R o, a1 = some ⟨R, o, none⟩ := (S.sl 0 rfl).elim fun F h => h.head (by omega)
      obtain ⟨R2, o2, rfl⟩ : ∃ R o, a2 = some ⟨R, o, none⟩ := (S.sl 1 rfl).elim fun F h => h.head (by omega)
      have hlt2 : (j : Int) < ss.length := by omega
      have HN : Hid ((!ceqs x.cells x.cells) = false) := Lib.hid (by simp [State.cells, ceqs, ceq])
      have Hx := Lib.hid hx
      clear hx
      go_wp2_with first | ((with_reducible apply wps_loada (T := 52) (k := 4) S 0); (case hx | hi => rfl); (case hk => exact Nat.le_of_ble_eq_true rfl); (case hT => decide +kernel))
      (refine wp_region_w (soft := [0, 1, 2, 3, 4, 5, 6, 7, 8]) S ?hm ?hB ?_); (case hm => kernel_rfl); (case hB => decide +kernel); clear S
      iterate 9
        (with_reducible apply softs_cons)
        (case hw =>
          (with_reducible apply soft_of); (case hi => rfl)
          intro T wz S
          simp only [List.cons_append, List.nil_append] at S
          go_wp2_with first | ((with_reducible apply wps_loada_el S 0 (hj := Hx.out) (q := 0) (vs := [.int .i64 x.n0, .int .i64 x.n1, .int .i64 x.n2, .int .i64 x.n3]) (m := 4)); (case hx | hi => rfl); (case hn => omega); (case hm | hv => rfl); (case hT => decide +kernel)) | ((with_reducible apply wps_loada_el S 1 (hj := Hx.out) (q := 0) (vs := [.int .i64 x.n0, .int .i64 x.n1, .int .i64 x.n2, .int .i64 x.n3]) (m := 4)); (case hx | hi => rfl); (case hn => omega); (case hm | hv => rfl); (case hT => decide +kernel)) | ((with_reducible apply wpList_neq_agg (t := 52) (ks := [.int .i64, .int .i64, .int .i64, .int .i64]) (b := _)); (case hx | hy => rfl); (case hl | ha | hg => kernel_rfl); (case hfx | hfy => rfl); (case hb => exact HN.out)) | ((with_reducible refine tot_done ?ht ?_); (case ht => kernel_rfl))
          exact ⟨rfl, S⟩)
        (case hs => exact ⟨_, rfl, by kernel_rfl⟩)
      refine softs_nil ?_
      (with_reducible apply W_done); (case hn => rfl); (case hr => decide +kernel)
      intro wz S
      simp only [List.append_nil] at S
      go_wp2_with first | ((with_reducible apply wps_loada (T := 52) (k := 4) S 0); (case hx | hi => rfl); (case hk => exact Nat.le_of_ble_eq_true rfl); (case hT => decide +kernel))
      go_roundw
      case rel => exact ⟨j + 1, by omega, by go_num, S⟩
      case measure => simp [intOf]; omega
    · obtain rfl : j = ss.length := by omega
      go_wp2_with first | ((with_reducible apply wps_loada (T := 52) (k := 4) S 0); (case hx | hi => rfl); (case hk => exact Nat.le_of_ble_eq_true rfl); (case hT => decide +kernel))
      go_ret
      exact ⟨rfl, S.below⟩
def BtsRel (v1 v2 : Value) (la lb : List BatV) (w : World) (i : Value) (wr : World) : Prop :=
  ∃ j : Nat, j ≤ la.length ∧ i = .int .i64 j ∧ St (fun _ => False) w wr [Sl true BatV.cells 8 v1 la, Sl true BatV.cells 8 v2 lb, Sls true Event.cells 7 (la.map BatV.vi) (la.map fun x : BatV => x.b.ins), Sls true Event.cells 7 (la.map BatV.vo) (la.map fun x : BatV => x.b.sent),
    Sls true Event.cells 7 (lb.map BatV.vi) (lb.map fun x : BatV => x.b.ins), Sls true Event.cells 7 (lb.map BatV.vo) (lb.map fun x : BatV => x.b.sent)]
set_option maxRecDepth 100000 in
set_option maxHeartbeats 8000000 in
theorem btseq_calls (v1 v2 : Value) (la lb : List BatV) (w : World) (F1 F2 F3 F4 F5 F6 : Nat → Prop) (h1 : (Sl true BatV.cells 8 v1 la).at_ w F1) (h2 : (Sl true BatV.cells 8 v2 lb).at_ w F2) (h3 : (Sls true Event.cells 7 (la.map BatV.vi) (la.map fun x : BatV => x.b.ins)).at_ w F3) (h4 : (Sls true Event.cells 7 (la.map BatV.vo) (la.map fun x : BatV => x.b.sent)).at_ w F4)
    (h5 : (Sls true Event.cells 7 (lb.map BatV.vi) (lb.map fun x : BatV => x.b.ins)).at_ w F5) (h6 : (Sls true Event.cells 7 (lb.map BatV.vo) (lb.map fun x : BatV => x.b.sent)).at_ w F6) (he : la.map (·.b) = lb.map (·.b)) (hn : la.length ≤ 65536) (hs : ∀ x ∈ la, x.b.ins.length ≤ 65536 ∧ x.b.sent.length ≤ 65536) :
    Calls Tryz.prog 18 #[v1, v2] w fun r w' => r = .returned (.bool true) ∧ Below w.heap.size w w' := by
  have S : St (fun _ => False) w w [Sl true BatV.cells 8 v1 la, Sl true BatV.cells 8 v2 lb, Sls true Event.cells 7 (la.map BatV.vi) (la.map fun x : BatV => x.b.ins), Sls true Event.cells 7 (la.map BatV.vo) (la.map fun x : BatV => x.b.sent),
    Sls true Event.cells 7 (lb.map BatV.vi) (lb.map fun x : BatV => x.b.ins), Sls true Event.cells 7 (lb.map BatV.vo) (lb.map fun x : BatV => x.b.sent)] := ((((((St.init _ w).share rfl rfl h6).share rfl rfl h5).share rfl rfl h4).share rfl rfl h3).share rfl rfl h2).share rfl rfl h1
  obtain ⟨a1, c1, rfl, _⟩ := (S.sl 0 rfl).elim fun _ h => h.form
  obtain ⟨a2, c2, rfl, _⟩ := (S.sl 1 rfl).elim fun _ h => h.form
  clear h1 h2 h3 h4 h5 h6
  have hl : lb.length = la.length := by have := congrArg List.length he; simpa using this.symm
  have HE := Lib.hid he
  have HSZ := Lib.hid hs
  rw [hl] at S ⊢
  have HL := Lib.hid hl
  clear he hs hl
  go_enter Tryz.func18, Tryz.ntmps18
  go_wp2_with first | ((with_reducible apply wps_loada (T := 52) (k := 4) S 0); (case hx | hi => rfl); (case hk => exact Nat.le_of_ble_eq_true rfl); (case hT => decide +kernel))
  go_loopw [5] (fun i wr => BtsRel (.slice a1 la.length c1) (.slice a2 la.length c2) la lb w i wr) (fun i _ => la.length - (intOf i).toNat)
  case atStart => exact ⟨0, Nat.zero_le _, rfl, S⟩
  case round =>
    clear S
    obtain ⟨j, hj, rfl, S⟩ := hrel
    by_cases hlt : j < la.length
    · obtain ⟨x, hx⟩ : ∃ x, la[j]? = some x := ⟨_, List.getElem?_eq_getElem hlt⟩
      obtain ⟨y, hy⟩ : ∃ y, lb[j]? = some y := ⟨_, List.getElem?_eq_getElem (by have := HL.out; omega)⟩
      have hb : y.b = x.b := by
        have h1 := congrArg (fun l => l[j]?) HE.out
        simp only [List.getElem?_map, hx, hy, Option.map_some, Option.some.injEq] at h1
        exact h1.symm
      obtain ⟨R1, o1, rfl⟩ : ∃ R o, a1 = some ⟨R, o, none⟩ := (S.sl 0 rfl).elim fun F h => h.head (by omega)
      obtain ⟨R2, o2, rfl⟩ : ∃ R o, a2 = some ⟨R, o, none⟩ := (S.sl 1 rfl).elim fun F h => h.head (by have := HL.out; omega)
      have hlt2 : (j : Int) < la.length := by omega
      have hsz := HSZ.out x (List.mem_of_getElem? hx)
      have HVI : Hid ((la.map BatV.vi)[j]? = some x.vi) := Lib.hid (by rw [List.getElem?_map, hx]; rfl)
      have HVB : Hid ((la.map fun x : BatV => x.b.ins)[j]? = some x.b.ins) := Lib.hid (by rw [List.getElem?_map, hx]; rfl)
      have HVO : Hid ((la.map BatV.vo)[j]? = some x.vo) := Lib.hid (by rw [List.getElem?_map, hx]; rfl)
      have HVS : Hid ((la.map fun x : BatV => x.b.sent)[j]? = some x.b.sent) := Lib.hid (by rw [List.getElem?_map, hx]; rfl)
      have HWI : Hid ((lb.map BatV.vi)[j]? = some y.vi) := Lib.hid (by rw [List.getElem?_map, hy]; rfl)
      have HWB : Hid ((lb.map fun x : BatV => x.b.ins)[j]? = some y.b.ins) := Lib.hid (by rw [List.getElem?_map, hy]; rfl)
      have HWO : Hid ((lb.map BatV.vo)[j]? = some y.vo) := Lib.hid (by rw [List.getElem?_map, hy]; rfl)
      have HWS : Hid ((lb.map fun x : BatV => x.b.sent)[j]? = some y.b.sent) := Lib.hid (by rw [List.getElem?_map, hy]; rfl)
      have HN : Hid ((!ceqs x.b.thn.cells y.b.thn.cells) = false) := Lib.hid (by rw [hb]; simp [State.cells, ceqs, ceq])
      have HE1 : Hid (∀ (w : World) (F1 F2 : Nat → Prop) (h1 : (Sl true Event.cells 7 x.vi x.b.ins).at_ w F1) (h2 : (Sl true Event.cells 7 y.vi y.b.ins).at_ w F2), Calls Tryz.prog 16 #[x.vi, y.vi] w fun r w' => r = .returned (.bool true) ∧ Below w.heap.size w w') := Lib.hid fun w F1 F2 h1 h2 =>
        (evseq_callsT _ _ _ _ w F1 F2 h1 h2 hsz.1 (by rw [hb]; exact hsz.1)).mono fun r w' ⟨h, hb2⟩ => ⟨by rw [h, hb]; simp, hb2⟩
      have HE2 : Hid (∀ (w : World) (F1 F2 : Nat → Prop) (h1 : (Sl true Event.cells 7 x.vo x.b.sent).at_ w F1) (h2 : (Sl true Event.cells 7 y.vo y.b.sent).at_ w F2), Calls Tryz.prog 16 #[x.vo, y.vo] w fun r w' => r = .returned (.bool true) ∧ Below w.heap.size w w') := Lib.hid fun w F1 F2 h1 h2 =>
        (evseq_callsT _ _ _ _ w F1 F2 h1 h2 hsz.2 (by rw [hb]; exact hsz.2)).mono fun r w' ⟨h, hb2⟩ => ⟨by rw [h, hb]; simp, hb2⟩
      have f1 : (x.b.at_ != y.b.at_) = false := by rw [hb]; simp
      have f2 : (x.b.lp != y.b.lp) = false := by rw [hb]; simp
      clear hsz hb
      have Hx := Lib.hid hx
      have Hy := Lib.hid hy
      clear hx hy
      go_wp2_with first | ((with_reducible apply wps_loada (T := 52) (k := 4) S 0); (case hx | hi => rfl); (case hk => exact Nat.le_of_ble_eq_true rfl); (case hT => decide +kernel))
      (refine wp_region_w (soft := [0, 1, 2, 3, 4, 5, 6, 7, 8, 9, 10, 11, 12, 13, 14, 15, 16, 17, 18, 19, 20, 21, 22, 23, 24, 25, 26, 27, 28, 29, 30, 31, 32, 33, 34, 35, 36, 37, 38, 39, 40, 41, 42, 43, 44, 45, 46, 47, 48, 49, 50, 51, 52, 53, 54, 55, 56, 57, 58, 59, 60, 61, 62, 63, 64]) S ?hm ?hB ?_); (case hm => kernel_rfl); (case hB => decide +kernel); clear S
      iterate 65
        (with_reducible apply softs_cons)
        (case hw =>
          (with_reducible apply soft_of); (case hi => rfl)
          intro T wz S
          simp only [List.cons_append, List.nil_append] at S
          go_wp2_with first | ((with_reducible apply wps_load_el S 0 (hj := Hx.out) (q := 0) (u := .int .i64 x.b.at_)); (case hx | hi => rfl); (case hn => omega); (case hu => rfl); (case hT => decide +kernel)) | ((with_reducible apply wps_load_el S 0 (hj := Hx.out) (q := 1) (u := .int .i64 x.b.lp)); (case hx | hi => rfl); (case hn => omega); (case hu => rfl); (case hT => decide +kernel)) | ((with_reducible apply wps_load_el S 0 (hj := Hx.out) (q := 2) (u := x.vi)); (case hx | hi => rfl); (case hn => omega); (case hu => rfl); (case hT => decide +kernel)) | ((with_reducible apply wps_loada_el S 0 (hj := Hx.out) (q := 3) (vs := [.int .i64 x.b.thn.n0, .int .i64 x.b.thn.n1, .int .i64 x.b.thn.n2, .int .i64 x.b.thn.n3]) (m := 4)); (case hx | hi => rfl); (case hn => omega); (case hm | hv => rfl); (case hT => decide +kernel)) | ((with_reducible apply wps_load_el S 0 (hj := Hx.out) (q := 7) (u := x.vo)); (case hx | hi => rfl); (case hn => omega); (case hu => rfl); (case hT => decide +kernel)) | ((with_reducible apply wps_load_el S 1 (hj := Hy.out) (q := 0) (u := .int .i64 y.b.at_)); (case hx | hi => rfl); (case hn => omega); (case hu => rfl); (case hT => decide +kernel)) | ((with_reducible apply wps_load_el S 1 (hj := Hy.out) (q := 1) (u := .int .i64 y.b.lp)); (case hx | hi => rfl); (case hn => omega); (case hu => rfl); (case hT => decide +kernel)) | ((with_reducible apply wps_load_el S 1 (hj := Hy.out) (q := 2) (u := y.vi)); (case hx | hi => rfl); (case hn => omega); (case hu => rfl); (case hT => decide +kernel)) | ((with_reducible apply wps_loada_el S 1 (hj := Hy.out) (q := 3) (vs := [.int .i64 y.b.thn.n0, .int .i64 y.b.thn.n1, .int .i64 y.b.thn.n2, .int .i64 y.b.thn.n3]) (m := 4)); (case hx | hi => rfl); (case hn => omega); (case hm | hv => rfl); (case hT => decide +kernel)) | ((with_reducible apply wps_load_el S 1 (hj := Hy.out) (q := 7) (u := y.vo)); (case hx | hi => rfl); (case hn => omega); (case hu => rfl); (case hT => decide +kernel)) | ((with_reducible apply wpList_neq_agg (t := 52) (ks := [.int .i64, .int .i64, .int .i64, .int .i64]) (b := _)); (case hx | hy => rfl); (case hl | ha | hg => kernel_rfl); (case hfx | hfy => rfl); (case hb => exact HN.out)) | (go_at_call 16; have hcz := HE1.out _ _ _ (sls_elB (S.get (i := 2) rfl).choose_spec HVI.out HVB.out) (sls_elB (S.get (i := 4) rfl).choose_spec HWI.out HWB.out); (with_reducible refine Calls.mono hcz ?_); clear hcz; rintro e wz ⟨rfl, hE⟩; replace S := S.ext (Keep.of_below hE); clear hE) | (go_at_call 16; have hcz := HE2.out _ _ _ (sls_elB (S.get (i := 3) rfl).choose_spec HVO.out HVS.out) (sls_elB (S.get (i := 5) rfl).choose_spec HWO.out HWS.out); (with_reducible refine Calls.mono hcz ?_); clear hcz; rintro e wz ⟨rfl, hE⟩; replace S := S.ext (Keep.of_below hE); clear hE) | ((with_reducible refine tot_done ?ht ?_); (case ht => kernel_rfl))
          exact ⟨rfl, S⟩)
        (case hs => exact ⟨_, rfl, by kernel_rfl⟩)
      refine softs_nil ?_
      (with_reducible apply W_done); (case hn => rfl); (case hr => decide +kernel)
      intro wz S
      simp only [List.append_nil] at S
      go_wp2_with first | ((with_reducible apply wps_loada (T := 52) (k := 4) S 0); (case hx | hi => rfl); (case hk => exact Nat.le_of_ble_eq_true rfl); (case hT => decide +kernel))
      go_roundw
      case rel => exact ⟨j + 1, by omega, by go_num, S⟩
      case measure => simp [intOf]; omega
    · obtain rfl : j = la.length := by omega
      go_wp2_with first | ((with_reducible apply wps_loada (T := 52) (k := 4) S 0); (case hx | hi => rfl); (case hk => exact Nat.le_of_ble_eq_true rfl); (case hT => decide +kernel))
      go_ret
      exact ⟨rfl, S.below⟩
end Go.Proofs.YtemgonomenjjaaaGreatDoor
/- The walk of the reference's Ahead (chapter 10). -/
namespace Go.Proofs.YtemgonomenjjaaaGreatDoor
open Go Go.RowKit Reg Mem

def Event.li (e : Event) : List Int := [e.key.at_, e.key.src, e.key.sent, e.key.no, e.dst, e.kind, e.data]
theorem evLt_at {a b : Event} {j : Nat} {x y : Int} (h : ∀ q, q < j → a.li[q]? = b.li[q]?) (hx : a.li[j]? = some x) (hy : b.li[j]? = some y) (hn : x ≠ y) : decide (evLt a b) = decide (x < y) := by
  have hj : j < 7 := (List.getElem?_eq_some_iff.1 hx).1
  rw [decide_eq_decide]
  unfold evLt
  have g : ∀ q, q < j → ∀ u v, a.li[q]? = some u → b.li[q]? = some v → u = v := fun q hq u v hu hv => by
    have := h q hq
    rw [hu, hv] at this
    exact Option.some.inj this
  clear h
  match j, hj with
  | 0, _ =>
    cases hx; cases hy
    omega
  | 1, _ =>
    cases hx; cases hy
    have g0 := g 0 (by decide) _ _ rfl rfl
    omega
  | 2, _ =>
    cases hx; cases hy
    have g0 := g 0 (by decide) _ _ rfl rfl
    have g1 := g 1 (by decide) _ _ rfl rfl
    omega
  | 3, _ =>
    cases hx; cases hy
    have g0 := g 0 (by decide) _ _ rfl rfl
    have g1 := g 1 (by decide) _ _ rfl rfl
    have g2 := g 2 (by decide) _ _ rfl rfl
    omega
  | 4, _ =>
    cases hx; cases hy
    have g0 := g 0 (by decide) _ _ rfl rfl
    have g1 := g 1 (by decide) _ _ rfl rfl
    have g2 := g 2 (by decide) _ _ rfl rfl
    have g3 := g 3 (by decide) _ _ rfl rfl
    omega
  | 5, _ =>
    cases hx; cases hy
    have g0 := g 0 (by decide) _ _ rfl rfl
    have g1 := g 1 (by decide) _ _ rfl rfl
    have g2 := g 2 (by decide) _ _ rfl rfl
    have g3 := g 3 (by decide) _ _ rfl rfl
    have g4 := g 4 (by decide) _ _ rfl rfl
    omega
  | 6, _ =>
    cases hx; cases hy
    have g0 := g 0 (by decide) _ _ rfl rfl
    have g1 := g 1 (by decide) _ _ rfl rfl
    have g2 := g 2 (by decide) _ _ rfl rfl
    have g3 := g 3 (by decide) _ _ rfl rfl
    have g4 := g 4 (by decide) _ _ rfl rfl
    have g5 := g 5 (by decide) _ _ rfl rfl
    omega
theorem evLt_none {a b : Event} (h : ∀ q, q < 7 → a.li[q]? = b.li[q]?) : decide (evLt a b) = false := by
  have g : ∀ q, q < 7 → ∀ u v, a.li[q]? = some u → b.li[q]? = some v → u = v := fun q hq u v hu hv => by
    have := h q hq
    rw [hu, hv] at this
    exact Option.some.inj this
  have g0 := g 0 (by decide) _ _ rfl rfl
  have g1 := g 1 (by decide) _ _ rfl rfl
  have g2 := g 2 (by decide) _ _ rfl rfl
  have g3 := g 3 (by decide) _ _ rfl rfl
  have g4 := g 4 (by decide) _ _ rfl rfl
  have g5 := g 5 (by decide) _ _ rfl rfl
  have g6 := g 6 (by decide) _ _ rfl rfl
  refine decide_eq_false fun k => ?_
  unfold evLt at k
  omega
def AhRel (va vb : Value) (a b : Event) (w : World) (i : Value) (wr : World) : Prop :=
  ∃ j : Nat, j ≤ 7 ∧ i = .int .i64 j ∧ Hid (∀ q, q < j → a.li[q]? = b.li[q]?) ∧ St (fun _ => False) w wr [Sl true intE 1 vb b.li, Sl true intE 1 va a.li]
set_option maxRecDepth 100000 in
set_option maxHeartbeats 8000000 in
theorem ahead_calls (a b : Event) (w : World) : Calls Tryz.prog 37 #[.agg #[.int .i64 a.key.at_, .int .i64 a.key.src, .int .i64 a.key.sent, .int .i64 a.key.no, .int .i64 a.dst, .int .i64 a.kind, .int .i64 a.data], .agg #[.int .i64 b.key.at_, .int .i64 b.key.src, .int .i64 b.key.sent, .int .i64 b.key.no, .int .i64 b.dst, .int .i64 b.kind, .int .i64 b.data]] w fun e w' => e = .returned (.bool (decide (evLt a b))) ∧ Below w.heap.size w w' := by
  have S := St.init (fun _ => False) w
  go_enter Tryz.func37, Tryz.ntmps37
  go_upto_region 2 with first | ((with_reducible apply wps_buildSlice (T := 64) (E := 3) (cs := #[.int .i64 a.key.at_, .int .i64 a.key.src, .int .i64 a.key.sent, .int .i64 a.key.no, .int .i64 a.dst, .int .i64 a.kind, .int .i64 a.data]) S); (case hr => intro w; kernel_rfl); clear S; intro bz wz S) | ((with_reducible refine tot_done ?ht ?_); (case ht => kernel_rfl)) | ((with_reducible apply wps_text S); (case hm => kernel_rfl); (case hB => decide +kernel); clear S; intro wz S) | ((with_reducible apply wps_boxa S); (case hx => rfl); clear S; intro bz wz S) | ((with_reducible apply wps_box1 (v := .int _ _) S); (case hx | h1 => rfl); clear S; intro bz wz S) | ((with_reducible apply wps_box1 (v := .bool _) S); (case hx | h1 => rfl); clear S; intro bz wz S) | ((with_reducible apply wps_box1 (v := .slice _ _ _) S); (case hx | h1 => rfl); clear S; intro bz wz S) | ((with_reducible apply wps_box1 (v := .pointer _) S); (case hx | h1 => rfl); clear S; intro bz wz S) | ((with_reducible apply wps_box1 (v := .map _) S); (case hx | h1 => rfl); clear S; intro bz wz S) | ((with_reducible apply wps_box1 (v := .string _) S); (case hx | h1 => rfl); clear S; intro bz wz S) | ((with_reducible apply wps_box1 (v := .func _ _ _) S); (case hx | h1 => rfl); clear S; intro bz wz S) | ((with_reducible apply wps_load S 0); (case hx | hi | hu => rfl); (case hT => decide +kernel)) | ((with_reducible apply wps_load S 1); (case hx | hi | hu => rfl); (case hT => decide +kernel))
  replace S := S.weak (i := 0) (A' := Sl true intE 1 (.slice (some ⟨bz, 0, none⟩) 7 7) a.li) rfl (fun e => by cases e) (fun F h => ⟨F, fun _ hb => hb, blk_sl (n := 7) a.li intE_len h rfl rfl⟩)
  simp only [List.set_cons_zero] at S
  obtain ⟨va, hva⟩ : ∃ b, bz = b := ⟨_, rfl⟩
  rw [hva] at S ⊢
  clear hva
  go_upto_region 3 with first | ((with_reducible apply wps_buildSlice (T := 64) (E := 3) (cs := #[.int .i64 b.key.at_, .int .i64 b.key.src, .int .i64 b.key.sent, .int .i64 b.key.no, .int .i64 b.dst, .int .i64 b.kind, .int .i64 b.data]) S); (case hr => intro w; kernel_rfl); clear S; intro bz wz S) | ((with_reducible refine tot_done ?ht ?_); (case ht => kernel_rfl)) | ((with_reducible apply wps_text S); (case hm => kernel_rfl); (case hB => decide +kernel); clear S; intro wz S) | ((with_reducible apply wps_load S 0); (case hx | hi | hu => rfl); (case hT => decide +kernel)) | ((with_reducible apply wps_load S 1); (case hx | hi | hu => rfl); (case hT => decide +kernel))
  replace S := S.weak (i := 0) (A' := Sl true intE 1 (.slice (some ⟨bz, 0, none⟩) 7 7) b.li) rfl (fun e => by cases e) (fun F h => ⟨F, fun _ hb => hb, blk_sl (n := 7) b.li intE_len h rfl rfl⟩)
  simp only [List.set_cons_zero] at S
  replace S := S.pick [0, 1] rfl
  simp only [pick, nth] at S
  have hla : a.li.length = 7 := rfl
  have hlb : b.li.length = 7 := rfl
  have Hla := Lib.hid hla
  have Hlb := Lib.hid hlb
  clear hla hlb
  go_wp2_with first | ((with_reducible refine tot_done ?ht ?_); (case ht => kernel_rfl)) | ((with_reducible apply wps_text S); (case hm => kernel_rfl); (case hB => decide +kernel); clear S; intro wz S) | ((with_reducible apply wps_load S 0); (case hx | hi | hu => rfl); (case hT => decide +kernel))
  go_loopw [7] (fun i wr => AhRel (.slice (some ⟨va, 0, none⟩) 7 7) (.slice (some ⟨bz, 0, none⟩) 7 7) a b w i wr) (fun i _ => 7 - (intOf i).toNat)
  case atStart => exact ⟨0, Nat.zero_le _, rfl, fun q h => by omega, S⟩
  case round =>
    clear S
    obtain ⟨j, hj, rfl, Hz, S⟩ := hrel
    by_cases hlt : j < 7
    · obtain ⟨x, hx⟩ : ∃ x, a.li[j]? = some x := ⟨_, List.getElem?_eq_getElem (by rw [Hla.out]; exact hlt)⟩
      obtain ⟨y, hy⟩ : ∃ y, b.li[j]? = some y := ⟨_, List.getElem?_eq_getElem (by rw [Hlb.out]; exact hlt)⟩
      have hlt2 : (j : Int) < 7 := by omega
      have hl1 : j < a.li.length := by rw [Hla.out]; exact hlt
      by_cases h0 : x = y
      · have f1 : (x != y) = false := by rw [h0]; simp
        have HN : Hid (∀ q, q < j + 1 → a.li[q]? = b.li[q]?) := Lib.hid fun q hq => by
          by_cases e : q = j
          · subst e; rw [hx, hy, h0]
          · exact Hz.out q (by omega)
        clear h0 hl1
        have Hx := Lib.hid hx
        have Hy := Lib.hid hy
        clear hx hy
        go_wp2_with first | ((with_reducible refine tot_done ?ht ?_); (case ht => kernel_rfl)) | ((with_reducible apply wps_load S 0); (case hx | hi | hu => rfl); (case hT => decide +kernel))
        (refine wp_region_w (soft := [0, 1, 2, 3, 4, 5, 6, 7, 8]) S ?hm ?hB ?_); (case hm => kernel_rfl); (case hB => decide +kernel); clear S
        iterate 9
          (with_reducible apply softs_cons)
          (case hw =>
            (with_reducible apply soft_of); (case hi => rfl)
            intro T wz S
            simp only [List.cons_append, List.nil_append] at S
            go_wp2_with first | ((with_reducible apply wps_load_el S 1 (hj := Hx.out) (q := 0) (u := .int .i64 x)); (case hx | hi => rfl); (case hn => omega); (case hu => rfl); (case hT => decide +kernel)) | ((with_reducible apply wps_load_el S 0 (hj := Hy.out) (q := 0) (u := .int .i64 y)); (case hx | hi => rfl); (case hn => omega); (case hu => rfl); (case hT => decide +kernel)) | ((with_reducible refine tot_done ?ht ?_); (case ht => kernel_rfl)) | ((with_reducible apply wps_load S 0); (case hx | hi | hu => rfl); (case hT => decide +kernel))
            exact ⟨rfl, S⟩)
          (case hs => exact ⟨_, rfl, by kernel_rfl⟩)
        refine softs_nil ?_
        (with_reducible apply W_done); (case hn => rfl); (case hr => decide +kernel)
        intro wz S
        simp only [List.append_nil] at S
        go_wp2_with first | ((with_reducible refine tot_done ?ht ?_); (case ht => kernel_rfl)) | ((with_reducible apply wps_text S); (case hm => kernel_rfl); (case hB => decide +kernel); clear S; intro wz S) | ((with_reducible apply wps_load S 0); (case hx | hi | hu => rfl); (case hT => decide +kernel))
        go_roundw
        case rel => exact ⟨j + 1, by omega, by go_num, HN, S⟩
        case measure => simp [intOf]; omega
      · have f1 : (x != y) = true := by simpa using h0
        have HE : Hid (decide (evLt a b) = decide (x < y)) := Lib.hid (evLt_at Hz.out hx hy h0)
        clear h0 hl1
        have Hx := Lib.hid hx
        have Hy := Lib.hid hy
        clear hx hy
        go_wp2_with first | ((with_reducible refine tot_done ?ht ?_); (case ht => kernel_rfl)) | ((with_reducible apply wps_load S 0); (case hx | hi | hu => rfl); (case hT => decide +kernel))
        (refine wp_region_w (soft := [0, 1, 2, 3, 4, 5, 6, 7, 8]) S ?hm ?hB ?_); (case hm => kernel_rfl); (case hB => decide +kernel); clear S
        iterate 9
          (with_reducible apply softs_cons)
          (case hw =>
            (with_reducible apply soft_of); (case hi => rfl)
            intro T wz S
            simp only [List.cons_append, List.nil_append] at S
            go_wp2_with first | ((with_reducible apply wps_load_el S 1 (hj := Hx.out) (q := 0) (u := .int .i64 x)); (case hx | hi => rfl); (case hn => omega); (case hu => rfl); (case hT => decide +kernel)) | ((with_reducible apply wps_load_el S 0 (hj := Hy.out) (q := 0) (u := .int .i64 y)); (case hx | hi => rfl); (case hn => omega); (case hu => rfl); (case hT => decide +kernel)) | ((with_reducible refine tot_done ?ht ?_); (case ht => kernel_rfl)) | ((with_reducible apply wps_load S 0); (case hx | hi | hu => rfl); (case hT => decide +kernel))
            exact ⟨rfl, S⟩)
          (case hs => exact ⟨_, rfl, by kernel_rfl⟩)
        refine softs_nil ?_
        (with_reducible apply W_done); (case hn => rfl); (case hr => decide +kernel)
        intro wz S
        simp only [List.append_nil] at S
        go_wp2_with first | ((with_reducible refine tot_done ?ht ?_); (case ht => kernel_rfl)) | ((with_reducible apply wps_load S 0); (case hx | hi | hu => rfl); (case hT => decide +kernel))
        (refine wp_region_w (soft := [0, 1, 2, 3, 4, 5, 6, 7, 8, 9]) S ?hm ?hB ?_); (case hm => kernel_rfl); (case hB => decide +kernel); clear S
        iterate 10
          (with_reducible apply softs_cons)
          (case hw =>
            (with_reducible apply soft_of); (case hi => rfl)
            intro T wz S
            simp only [List.cons_append, List.nil_append] at S
            go_wp2_with first | ((with_reducible apply wps_load_el S 1 (hj := Hx.out) (q := 0) (u := .int .i64 x)); (case hx | hi => rfl); (case hn => omega); (case hu => rfl); (case hT => decide +kernel)) | ((with_reducible apply wps_load_el S 0 (hj := Hy.out) (q := 0) (u := .int .i64 y)); (case hx | hi => rfl); (case hn => omega); (case hu => rfl); (case hT => decide +kernel)) | ((with_reducible refine tot_done ?ht ?_); (case ht => kernel_rfl)) | ((with_reducible apply wps_load S 0); (case hx | hi | hu => rfl); (case hT => decide +kernel))
            exact ⟨rfl, S⟩)
          (case hs => exact ⟨_, rfl, by kernel_rfl⟩)
        refine softs_nil ?_
        (with_reducible apply W_done); (case hn => rfl); (case hr => decide +kernel)
        intro wz S
        simp only [List.append_nil] at S
        go_wp2_with first | ((with_reducible refine tot_done ?ht ?_); (case ht => kernel_rfl)) | ((with_reducible apply wps_text S); (case hm => kernel_rfl); (case hB => decide +kernel); clear S; intro wz S) | ((with_reducible apply wps_load S 0); (case hx | hi | hu => rfl); (case hT => decide +kernel))
        go_ret
        exact ⟨by rw [HE.out]; rfl, S.below⟩
    · obtain rfl : j = 7 := by omega
      go_wp2_with first | ((with_reducible refine tot_done ?ht ?_); (case ht => kernel_rfl)) | ((with_reducible apply wps_text S); (case hm => kernel_rfl); (case hB => decide +kernel); clear S; intro wz S) | ((with_reducible apply wps_load S 0); (case hx | hi | hu => rfl); (case hT => decide +kernel))
      go_ret
      exact ⟨by rw [evLt_none Hz.out]; rfl, S.below⟩
end Go.Proofs.YtemgonomenjjaaaGreatDoor

import Derived.Test.YtemgonomenjjaaaGreatDoorR22
import Derived.Test.YtemgonomenjjaaaGreatDoorR18
import Derived.Test.YtemgonomenjjaaaGreatDoorR14
import Derived.Test.YtemgonomenjjaaaGreatDoorR17
import Derived.Test.YtemgonomenjjaaaGreatDoorR24
import Derived.Test.YtemgonomenjjaaaGreatDoorR09
import Derived.Deep.LoopGhost
/- The walk of the law's awake (chapter 16). -/
namespace Go.Proofs.YtemgonomenjjaaaGreatDoor
open Go Go.RowKit Reg Mem

def wk16 : Cfg := ⟨[[]], [⟨0, ⟨0, 0, 0, 0⟩⟩, ⟨0, ⟨0, 0, 0, 0⟩⟩], [], 9, 1, 0⟩
def wk16l : List Event := [⟨⟨3, 0, -1, 0⟩, 1, 0, 0⟩, ⟨⟨2, 0, -1, 0⟩, 0, 0, 0⟩]
theorem wk16_ok : cfgE wk16 = 0 := by decide +kernel
theorem wk16_mid : Mid wk16 := ⟨by decide, by decide, by decide⟩
theorem wk16_mid2 : ∀ p ∈ wk16.programs, p.length ≤ 65536 := by decide
theorem wk16_fine : Fine wk16.lps.length 0 5 wk16l := wrongL_fine.1 (by decide +kernel)
theorem wk16_run : (timesL wk16 (sortT wk16l) (newL wk16).ss).2.map (fun b => (b.at_, b.lp)) = [(2, 0), (3, 1)] := by decide +kernel
set_option maxRecDepth 100000 in
set_option maxHeartbeats 8000000 in
theorem awake16_calls (w : World) (F : Nat → Prop) (ht : Tab.at_ w F) : Calls Tryz.prog 6 #[] w fun r w' => r = .returned (.bool true) ∧ Below w.heap.size w w' := by
  have S : St (fun _ => False) w w [Tab] := (St.init _ w).share rfl rfl ht
  clear ht
  replace S := (S.nil 108 Start.cells 4).nil 115 Instr.cells 5
  obtain ⟨bs, HBS⟩ : ∃ bs, Hid ((timesL wk16 (sortT wk16l) (newL wk16).ss).2 = bs) := ⟨_, rfl⟩
  obtain ⟨g1, HG1⟩ : ∃ g, Hid (comL wk16 (newL wk16) 5 wk16l = g) := ⟨_, rfl⟩
  have HM : Hid (bs.map (fun b => (b.at_, b.lp)) = [(2, 0), (3, 1)]) := Lib.hid (by rw [← HBS.out]; exact wk16_run)
  have HC := Lib.hid fun (X R : Nat) (vs hs : List Value) (v : Value) (w : World) (F : Nat → Prop) (S0 : St F w w [logA X R (newL wk16), Sl true Event.cells 7 v wk16l, ModA true 84 R vs hs wk16, Tab]) =>
    commit_calls X R vs hs wk16 (newL wk16) 5 v wk16l w F S0 wk16_ok (by decide) rfl (by decide) (by decide) wk16_fine
  rw [HBS.out, HG1.out] at HC
  have HW := Lib.hid fun (X R : Nat) (v : Value) (w : World) (F : Nat → Prop) (S0 : St F w w [logA X R g1, Sl true Event.cells 7 v []]) =>
    commit_wrong X R g1 4 v [] w F S0 (by decide) 18 (by rw [← HG1.out]; unfold wrongL; rw [if_pos (.inl (by decide))]) (by decide)
  go_enter Tryz.func6, Tryz.ntmps6
  go_wp2_with first | ((with_reducible apply wps_buildSlice (T := 22) (E := 105) (cs := #[.slice none 0 0]) S); (case hr => intro w; kernel_rfl); clear S; intro bh wz S) | ((with_reducible apply wps_buildSlice (T := 23) (E := 74) (cs := #[.int .i64 0, .int .i64 0, .int .i64 0, .int .i64 0, .int .i64 0, .int .i64 0, .int .i64 0, .int .i64 0, .int .i64 0, .int .i64 0]) S); (case hr => intro w; kernel_rfl); clear S; intro bp wz S)
  have hcfg : (CfgA true [.slice (some ⟨bh, 0, none⟩) 1 1, .slice (some ⟨bp, 0, none⟩) 2 2, .slice none 0 0, .int .i64 9, .int .i64 1, .int .i64 0] [.slice none 0 0] wk16).at_ wz (fun b => b < wz.heap.size) :=
    cfg_any (c := wk16) (blk_sl (n := 1) [.slice none 0 0] vcells (S.get (i := 1) rfl).choose_spec rfl rfl) (blk_sl (n := 2) wk16.lps plcells (S.get (i := 0) rfl).choose_spec rfl rfl) (own_sl (sh := true) stcells (S.get (i := 3) rfl).choose_spec)
      (sls_one (own_sl (sh := true) incells (S.get (i := 2) rfl).choose_spec))
  refine Calls.mono (new_calls _ _ wk16 _ _ _ hcfg (S.get (i := 4) rfl).choose_spec wk16_mid wk16_mid2) ?_
  clear hcfg
  rintro e wz (⟨h, _⟩ | ⟨_, R, vs, hs, rfl, T⟩)
  · exact absurd wk16_ok h
  replace S := ((S.join T rfl).modShare 0 rfl).pick [0, 5] rfl
  repeat (first | simp only at S | simp only [pick] at S | simp only [nth] at S | simp only [List.set_cons_succ] at S | simp only [List.set_cons_zero] at S | simp only [List.setIfInBounds_toArray] at S | simp only [setAll] at S | simp only [List.cons_append] at S | simp only [List.nil_append] at S | simp only [List.append_nil] at S)
  clear T
  go_upto_region 5 with first | (go_at_call 7; refine Calls.mono (lnew_calls R vs hs wk16 _ _ (S.get (i := 0) rfl).choose_spec (by decide)) ?_; rintro e wz ⟨X, rfl, T⟩; replace S := S.join T rfl; clear T; simp only [List.cons_append, List.nil_append] at S)
  go_upto_region 6 with first | ((with_reducible apply wps_buildSlice (T := 45) (E := 78) (cs := #[.int .i64 3, .int .i64 0, .int .i64 (-1), .int .i64 0, .int .i64 1, .int .i64 0, .int .i64 0, .int .i64 2, .int .i64 0, .int .i64 (-1), .int .i64 0, .int .i64 0, .int .i64 0, .int .i64 0]) S); (case hr => intro w; kernel_rfl); clear S; intro be wz S) | (go_at_call 12; replace S := S.weak (i := 0) (A' := Sl true Event.cells 7 (.slice (some ⟨be, 0, none⟩) 2 2) wk16l) rfl (fun e => by cases e) (fun F h => ⟨F, fun _ hb => hb, blk_sl (n := 2) wk16l ecells h rfl rfl⟩); simp only [List.set_cons_zero] at S; obtain ⟨Fz, hF, hBk⟩ := S.lend [1] [0, 2, 3] [0, 2, 3] rfl rfl rfl; simp only [List.cons_append, List.nil_append, pick, nth] at hF hBk; refine Calls.mono (HC.out X R vs hs _ _ _ hF) ?_; rintro e wz ⟨ar, cr, lb, rfl, hlb, T⟩; replace S := hBk _ _ T rfl; clear hBk hF T; simp only [List.cons_append, List.nil_append] at S)
  replace S := (S.nil 78 Event.cells 7).freeze true 0 ecells rfl
  simp only [List.set_cons_zero] at S
  have hbl : bs.length = 2 := by have := congrArg List.length HM.out; rw [List.length_map] at this; exact this
  rw [hbl] at S ⊢
  clear hbl
  obtain ⟨x0, x1, rfl⟩ : ∃ x0 x1, lb = [x0, x1] := by
    have h1 : lb.length = 2 := by have := congrArg List.length (hlb ▸ HM.out); simpa using this
    match lb, h1 with
    | [a, b], _ => exact ⟨a, b, rfl⟩
  have hm := HM.out
  rw [← hlb] at hm
  simp only [List.map_cons, List.map_nil, List.cons.injEq, Prod.mk.injEq, and_true] at hm
  have f0 : (x0.b.at_ == 2) = true := by simp [hm.1.1]
  have f1 : (x0.b.lp == 0) = true := by simp [hm.1.2]
  have f2 : (x1.b.at_ == 3) = true := by simp [hm.2.1]
  have f3 : (x1.b.lp == 1) = true := by simp [hm.2.2]
  obtain ⟨RB, cB, e⟩ := own_hd 2 S rfl (by simp)
  simp only [Value.slice.injEq] at e
  obtain ⟨rfl, hq, rfl⟩ := e
  clear hm hlb HM hq
  have hj0 : ([x0, x1] : List BatV)[0]? = some x0 := rfl
  have hj1 : ([x0, x1] : List BatV)[1]? = some x1 := rfl
  have Hj0 := Lib.hid hj0
  have Hj1 := Lib.hid hj1
  clear hj0 hj1
  go_wp2_with first | (go_at_call 12; obtain ⟨Fz, hF, hBk⟩ := S.lend [1] [0] [2] rfl rfl rfl; simp only [List.cons_append, List.nil_append, pick, nth] at hF hBk; refine Calls.mono (HW.out X R _ _ _ hF) ?_; rintro e wz ⟨rfl, T⟩; replace S := hBk _ _ T rfl; clear hBk hF T; simp only [List.cons_append, List.nil_append] at S) | ((with_reducible apply wps_load_own bvcells S 1 (hj := Hj0.out) (q := 0) (u := .int .i64 x0.b.at_)); (case hx | hi => rfl); (case hn => omega); (case hu => rfl); (case hT => decide +kernel)) | ((with_reducible apply wps_load_own bvcells S 1 (hj := Hj0.out) (q := 1) (u := .int .i64 x0.b.lp)); (case hx | hi => rfl); (case hn => omega); (case hu => rfl); (case hT => decide +kernel)) | ((with_reducible apply wps_load_own bvcells S 1 (hj := Hj1.out) (q := 0) (u := .int .i64 x1.b.at_)); (case hx | hi => rfl); (case hn => omega); (case hu => rfl); (case hT => decide +kernel)) | ((with_reducible apply wps_load_own bvcells S 1 (hj := Hj1.out) (q := 1) (u := .int .i64 x1.b.lp)); (case hx | hi => rfl); (case hn => omega); (case hu => rfl); (case hT => decide +kernel))
  go_ret
  exact ⟨rfl, S.below⟩
end Go.Proofs.YtemgonomenjjaaaGreatDoor
/- The walk of the law's Events (chapter 10). -/
namespace Go.Proofs.YtemgonomenjjaaaGreatDoor
open Go Go.RowKit Reg Mem

def EvEqRelT (v1 v2 : Value) (xs ys : List Event) (w : World) (i : Value) (wr : World) : Prop :=
  ∃ j : Nat, j ≤ xs.length ∧ i = .int .i64 j ∧ (∀ q : Nat, q < j → xs[q]? = ys[q]?) ∧ St (fun _ => False) w wr [Sl true Event.cells 7 v2 ys, Sl true Event.cells 7 v1 xs]
set_option maxRecDepth 100000 in
set_option maxHeartbeats 4000000 in
theorem evseq_callsT (v1 v2 : Value) (xs ys : List Event) (w : World) (F1 F2 : Nat → Prop) (h1 : (Sl true Event.cells 7 v1 xs).at_ w F1) (h2 : (Sl true Event.cells 7 v2 ys).at_ w F2) (hn : xs.length ≤ 65536) (hn2 : ys.length ≤ 65536) :
    Calls Tryz.prog 16 #[v1, v2] w fun r w' => r = .returned (.bool (decide (xs = ys))) ∧ Below w.heap.size w w' := by
  have S : St (fun _ => False) w w [Sl true Event.cells 7 v2 ys, Sl true Event.cells 7 v1 xs] := ((St.init _ w).share rfl rfl h1).share rfl rfl h2
  obtain ⟨ad2, c2, rfl, _⟩ := (S.sl 0 rfl).elim fun _ h => h.form
  obtain ⟨ad1, c1, rfl, _⟩ := (S.sl 1 rfl).elim fun _ h => h.form
  clear h1 h2
  by_cases hl : xs.length = ys.length
  · have hl2 : (xs.length : Int) = ys.length := by omega
    have HL := Lib.hid hl
    clear hl
    go_enter Tryz.func16, Tryz.ntmps16
    go_wp2_with first | ((with_reducible apply wps_loada (T := 78) (k := 7) S 3); (case hx | hi => rfl); (case hk => exact Nat.le_of_ble_eq_true rfl); (case hT => decide +kernel))
    go_loopw [5] (fun i wr => EvEqRelT (.slice ad1 xs.length c1) (.slice ad2 ys.length c2) xs ys w i wr) (fun i _ => xs.length - (intOf i).toNat)
    case atStart => exact ⟨0, Nat.zero_le _, rfl, fun q h => by omega, S⟩
    case round =>
      clear S
      obtain ⟨j, hj, rfl, he, S⟩ := hrel
      have He := Lib.hid he
      clear he
      by_cases hlt : j < xs.length
      · obtain ⟨x, hx⟩ : ∃ x, xs[j]? = some x := ⟨_, List.getElem?_eq_getElem hlt⟩
        obtain ⟨y, hy⟩ : ∃ y, ys[j]? = some y := ⟨_, List.getElem?_eq_getElem (by have := HL.out; omega)⟩
        obtain ⟨R1, o1, rfl⟩ : ∃ R o, ad1 = some ⟨R, o, none⟩ := (S.sl 1 rfl).elim fun F h => h.head (by omega)
        obtain ⟨R2, o2, rfl⟩ : ∃ R o, ad2 = some ⟨R, o, none⟩ := (S.sl 0 rfl).elim fun F h => h.head (by have := HL.out; omega)
        have hlt2 : (j : Int) < xs.length := by omega
        have hlt3 : (j : Int) < ys.length := by omega
        have hlt4 : j < ys.length := by omega
        by_cases hxy : x = y
        · have HN := Lib.hid ((ev_nceqs x y).trans (show _ = false by simp [hxy]))
          have HXY := Lib.hid hxy
          clear hxy
          have Hx := Lib.hid hx
          have Hy := Lib.hid hy
          clear hx hy
          go_wp2_with first | ((with_reducible apply wps_loada_el S 1 (hj := Hx.out) (q := 0) (vs := [.int .i64 x.key.at_, .int .i64 x.key.src, .int .i64 x.key.sent, .int .i64 x.key.no, .int .i64 x.dst, .int .i64 x.kind, .int .i64 x.data]) (m := 7)); (case hx | hi => rfl); (case hn => omega); (case hm | hv => rfl); (case hT => decide +kernel)) | ((with_reducible apply wps_loada_el S 0 (hj := Hy.out) (q := 0) (vs := [.int .i64 y.key.at_, .int .i64 y.key.src, .int .i64 y.key.sent, .int .i64 y.key.no, .int .i64 y.dst, .int .i64 y.kind, .int .i64 y.data]) (m := 7)); (case hx | hi => rfl); (case hn => omega); (case hm | hv => rfl); (case hT => decide +kernel)) | ((with_reducible apply wpList_neq_agg (t := 78) (ks := [.int .i64, .int .i64, .int .i64, .int .i64, .int .i64, .int .i64, .int .i64]) (b := _)); (case hx | hy => rfl); (case hl | ha | hg => kernel_rfl); (case hfx | hfy => rfl); (case hb => exact HN.out)) | ((with_reducible refine tot_done ?ht ?_); (case ht => kernel_rfl)) | ((with_reducible apply wps_text S); (case hm => kernel_rfl); (case hB => decide +kernel); clear S; intro wz S)
          go_roundw
          case rel =>
            refine ⟨j + 1, by omega, by go_num, fun q hq => ?_, S⟩
            by_cases e : q = j
            · subst e; rw [Hx.out, Hy.out, HXY.out]
            · exact He.out q (by omega)
          case measure => simp [intOf]; omega
        · have HN := Lib.hid ((ev_nceqs x y).trans (show _ = true by simp [hxy]))
          have HXY := Lib.hid hxy
          clear hxy
          have Hx := Lib.hid hx
          have Hy := Lib.hid hy
          clear hx hy
          go_wp2_with first | ((with_reducible apply wps_loada_el S 1 (hj := Hx.out) (q := 0) (vs := [.int .i64 x.key.at_, .int .i64 x.key.src, .int .i64 x.key.sent, .int .i64 x.key.no, .int .i64 x.dst, .int .i64 x.kind, .int .i64 x.data]) (m := 7)); (case hx | hi => rfl); (case hn => omega); (case hm | hv => rfl); (case hT => decide +kernel)) | ((with_reducible apply wps_loada_el S 0 (hj := Hy.out) (q := 0) (vs := [.int .i64 y.key.at_, .int .i64 y.key.src, .int .i64 y.key.sent, .int .i64 y.key.no, .int .i64 y.dst, .int .i64 y.kind, .int .i64 y.data]) (m := 7)); (case hx | hi => rfl); (case hn => omega); (case hm | hv => rfl); (case hT => decide +kernel)) | ((with_reducible apply wpList_neq_agg (t := 78) (ks := [.int .i64, .int .i64, .int .i64, .int .i64, .int .i64, .int .i64, .int .i64]) (b := _)); (case hx | hy => rfl); (case hl | ha | hg => kernel_rfl); (case hfx | hfy => rfl); (case hb => exact HN.out)) | ((with_reducible refine tot_done ?ht ?_); (case ht => kernel_rfl)) | ((with_reducible apply wps_text S); (case hm => kernel_rfl); (case hB => decide +kernel); clear S; intro wz S)
          go_ret
          exact ⟨ret_bool (by symm; rw [decide_eq_false_iff_not]; rintro rfl; rw [Hx.out] at Hy; exact HXY.out (Option.some.inj Hy.out)), S.below⟩
      · obtain rfl : j = xs.length := by omega
        go_wp2_with first | ((with_reducible apply wps_loada (T := 78) (k := 7) S 3); (case hx | hi => rfl); (case hk => exact Nat.le_of_ble_eq_true rfl); (case hT => decide +kernel))
        go_ret
        refine ⟨ret_bool ?_, S.below⟩
        symm
        rw [decide_eq_true_eq]
        refine List.ext_getElem? fun q => ?_
        by_cases hq : q < xs.length
        · exact He.out q hq
        · have := HL.out
          rw [List.getElem?_eq_none (by omega), List.getElem?_eq_none (by omega)]
  · have hl2 : ¬ (xs.length : Int) = ys.length := by omega
    have HL := Lib.hid hl
    clear hl
    go_enter Tryz.func16, Tryz.ntmps16
    go_wp2_with first | ((with_reducible apply wps_loada (T := 78) (k := 7) S 3); (case hx | hi => rfl); (case hk => exact Nat.le_of_ble_eq_true rfl); (case hT => decide +kernel))
    go_ret
    exact ⟨ret_bool (by symm; rw [decide_eq_false_iff_not]; rintro rfl; exact HL.out rfl), S.below⟩
end Go.Proofs.YtemgonomenjjaaaGreatDoor
/- The walks of the law's Batches and States (chapter 16), where both are one. -/
namespace Go.Proofs.YtemgonomenjjaaaGreatDoor
open Go Go.RowKit Reg Mem

theorem sls_elB {α : Type} {sh : Bool} {enc : α → List Value} {k : Nat} {vs : List Value} {xss : List (List α)} {w : World} {F : Nat → Prop} (h : (Sls sh enc k vs xss).at_ w F) {j : Nat} {v : Value} {xs : List α} (hv : vs[j]? = some v) (hx : xss[j]? = some xs) : (Sl true enc k v xs).at_ w F :=
  ⟨h.1.2 j v xs hv hx, h.2⟩
def StsRel (v1 v2 : Value) (ss : List State) (w : World) (i : Value) (wr : World) : Prop :=
  ∃ j : Nat, j ≤ ss.length ∧ i = .int .i64 j ∧ St (fun _ => False) w wr [Sl true State.cells 4 v1 ss, Sl true State.cells 4 v2 ss]
set_option maxRecDepth 100000 in
set_option maxHeartbeats 4000000 in
theorem stseq_calls (v1 v2 : Value) (ss : List State) (w : World) (F1 F2 : Nat → Prop) (h1 : (Sl true State.cells 4 v1 ss).at_ w F1) (h2 : (Sl true State.cells 4 v2 ss).at_ w F2) (hn : ss.length ≤ 65536) :
    Calls Tryz.prog 13 #[v1, v2] w fun r w' => r = .returned (.bool true) ∧ Below w.heap.size w w' := by
  have S : St (fun _ => False) w w [Sl true State.cells 4 v1 ss, Sl true State.cells 4 v2 ss] := ((St.init _ w).share rfl rfl h2).share rfl rfl h1
  obtain ⟨a1, c1, rfl, _⟩ := (S.sl 0 rfl).elim fun _ h => h.form
  obtain ⟨a2, c2, rfl, _⟩ := (S.sl 1 rfl).elim fun _ h => h.form
  clear h1 h2
  go_enter Tryz.func13, Tryz.ntmps13
  go_wp2_with first | ((with_reducible apply wps_loada (T := 52) (k := 4) S 0); (case hx | hi => rfl); (case hk => exact Nat.le_of_ble_eq_true rfl); (case hT => decide +kernel))
  go_loopw [5] (fun i wr => StsRel (.slice a1 ss.length c1) (.slice a2 ss.length c2) ss w i wr) (fun i _ => ss.length - (intOf i).toNat)
  case atStart => exact ⟨0, Nat.zero_le _, rfl, S⟩
  case round =>
    clear S
    obtain ⟨j, hj, rfl, S⟩ := hrel
    by_cases hlt : j < ss.length
    · obtain ⟨x, hx⟩ : ∃ x, ss[j]? = some x := ⟨_, List.getElem?_eq_getElem hlt⟩
      obtain ⟨R1, o1, rfl⟩ : ∃ R o, a1 = some ⟨R, o, none⟩ := (S.sl 0 rfl).elim fun F h => h.head (by omega)
      obtain ⟨R2, o2, rfl⟩ : ∃ R o, a2 = some ⟨R, o, none⟩ := (S.sl 1 rfl).elim fun F h => h.head (by omega)
      have hlt2 : (j : Int) < ss.length := by omega
      have HN : Hid ((!ceqs x.cells x.cells) = false) := Lib.hid (by simp [State.cells, ceqs, ceq])
      have Hx := Lib.hid hx
      clear hx
      go_wp2_with first | ((with_reducible apply wps_loada (T := 52) (k := 4) S 0); (case hx | hi => rfl); (case hk => exact Nat.le_of_ble_eq_true rfl); (case hT => decide +kernel))
      (refine wp_region_w (soft := [0, 1, 2, 3, 4, 5, 6, 7, 8]) S ?hm ?hB ?_); (case hm => kernel_rfl); (case hB => decide +kernel); clear S
      iterate 9
        (with_reducible apply softs_cons)
        (case hw =>
          (with_reducible apply soft_of); (case hi => rfl)
          intro T wz S
          simp only [List.cons_append, List.nil_append] at S
          go_wp2_with first | ((with_reducible apply wps_loada_el S 0 (hj := Hx.out) (q := 0) (vs := [.int .i64 x.n0, .int .i64 x.n1, .int .i64 x.n2, .int .i64 x.n3]) (m := 4)); (case hx | hi => rfl); (case hn => omega); (case hm | hv => rfl); (case hT => decide +kernel)) | ((with_reducible apply wps_loada_el S 1 (hj := Hx.out) (q := 0) (vs := [.int .i64 x.n0, .int .i64 x.n1, .int .i64 x.n2, .int .i64 x.n3]) (m := 4)); (case hx | hi => rfl); (case hn => omega); (case hm | hv => rfl); (case hT => decide +kernel)) | ((with_reducible apply wpList_neq_agg (t := 52) (ks := [.int .i64, .int .i64, .int .i64, .int .i64]) (b := _)); (case hx | hy => rfl); (case hl | ha | hg => kernel_rfl); (case hfx | hfy => rfl); (case hb => exact HN.out)) | ((with_reducible refine tot_done ?ht ?_); (case ht => kernel_rfl))
          exact ⟨rfl, S⟩)
        (case hs => exact ⟨_, rfl, by kernel_rfl⟩)
      refine softs_nil ?_
      (with_reducible apply W_done); (case hn => rfl); (case hr => decide +kernel)
      intro wz S
      simp only [List.append_nil] at S
      go_wp2_with first | ((with_reducible apply wps_loada (T := 52) (k := 4) S 0); (case hx | hi => rfl); (case hk => exact Nat.le_of_ble_eq_true rfl); (case hT => decide +kernel))
      go_roundw
      case rel => exact ⟨j + 1, by omega, by go_num, S⟩
      case measure => simp [intOf]; omega
    · obtain rfl : j = ss.length := by omega
      go_wp2_with first | ((with_reducible apply wps_loada (T := 52) (k := 4) S 0); (case hx | hi => rfl); (case hk => exact Nat.le_of_ble_eq_true rfl); (case hT => decide +kernel))
      go_ret
      exact ⟨rfl, S.below⟩
def BtsRel (v1 v2 : Value) (la lb : List BatV) (w : World) (i : Value) (wr : World) : Prop :=
  ∃ j : Nat, j ≤ la.length ∧ i = .int .i64 j ∧ St (fun _ => False) w wr [Sl true BatV.cells 8 v1 la, Sl true BatV.cells 8 v2 lb, Sls true Event.cells 7 (la.map BatV.vi) (la.map fun x : BatV => x.b.ins), Sls true Event.cells 7 (la.map BatV.vo) (la.map fun x : BatV => x.b.sent),
    Sls true Event.cells 7 (lb.map BatV.vi) (lb.map fun x : BatV => x.b.ins), Sls true Event.cells 7 (lb.map BatV.vo) (lb.map fun x : BatV => x.b.sent)]
set_option maxRecDepth 100000 in
set_option maxHeartbeats 8000000 in
theorem btseq_calls (v1 v2 : Value) (la lb : List BatV) (w : World) (F1 F2 F3 F4 F5 F6 : Nat → Prop) (h1 : (Sl true BatV.cells 8 v1 la).at_ w F1) (h2 : (Sl true BatV.cells 8 v2 lb).at_ w F2) (h3 : (Sls true Event.cells 7 (la.map BatV.vi) (la.map fun x : BatV => x.b.ins)).at_ w F3) (h4 : (Sls true Event.cells 7 (la.map BatV.vo) (la.map fun x : BatV => x.b.sent)).at_ w F4)
    (h5 : (Sls true Event.cells 7 (lb.map BatV.vi) (lb.map fun x : BatV => x.b.ins)).at_ w F5) (h6 : (Sls true Event.cells 7 (lb.map BatV.vo) (lb.map fun x : BatV => x.b.sent)).at_ w F6) (he : la.map (·.b) = lb.map (·.b)) (hn : la.length ≤ 65536) (hs : ∀ x ∈ la, x.b.ins.length ≤ 65536 ∧ x.b.sent.length ≤ 65536) :
    Calls Tryz.prog 18 #[v1, v2] w fun r w' => r = .returned (.bool true) ∧ Below w.heap.size w w' := by
  have S : St (fun _ => False) w w [Sl true BatV.cells 8 v1 la, Sl true BatV.cells 8 v2 lb, Sls true Event.cells 7 (la.map BatV.vi) (la.map fun x : BatV => x.b.ins), Sls true Event.cells 7 (la.map BatV.vo) (la.map fun x : BatV => x.b.sent),
    Sls true Event.cells 7 (lb.map BatV.vi) (lb.map fun x : BatV => x.b.ins), Sls true Event.cells 7 (lb.map BatV.vo) (lb.map fun x : BatV => x.b.sent)] := ((((((St.init _ w).share rfl rfl h6).share rfl rfl h5).share rfl rfl h4).share rfl rfl h3).share rfl rfl h2).share rfl rfl h1
  obtain ⟨a1, c1, rfl, _⟩ := (S.sl 0 rfl).elim fun _ h => h.form
  obtain ⟨a2, c2, rfl, _⟩ := (S.sl 1 rfl).elim fun _ h => h.form
  clear h1 h2 h3 h4 h5 h6
  have hl : lb.length = la.length := by have := congrArg List.length he; simpa using this.symm
  have HE := Lib.hid he
  have HSZ := Lib.hid hs
  rw [hl] at S ⊢
  have HL := Lib.hid hl
  clear he hs hl
  go_enter Tryz.func18, Tryz.ntmps18
  go_wp2_with first | ((with_reducible apply wps_loada (T := 52) (k := 4) S 0); (case hx | hi => rfl); (case hk => exact Nat.le_of_ble_eq_true rfl); (case hT => decide +kernel))
  go_loopw [5] (fun i wr => BtsRel (.slice a1 la.length c1) (.slice a2 la.length c2) la lb w i wr) (fun i _ => la.length - (intOf i).toNat)
  case atStart => exact ⟨0, Nat.zero_le _, rfl, S⟩
  case round =>
    clear S
    obtain ⟨j, hj, rfl, S⟩ := hrel
    by_cases hlt : j < la.length
    · obtain ⟨x, hx⟩ : ∃ x, la[j]? = some x := ⟨_, List.getElem?_eq_getElem hlt⟩
      obtain ⟨y, hy⟩ : ∃ y, lb[j]? = some y := ⟨_, List.getElem?_eq_getElem (by have := HL.out; omega)⟩
      have hb : y.b = x.b := by
        have h1 := congrArg (fun l => l[j]?) HE.out
        simp only [List.getElem?_map, hx, hy, Option.map_some, Option.some.injEq] at h1
        exact h1.symm
      obtain ⟨R1, o1, rfl⟩ : ∃ R o, a1 = some ⟨R, o, none⟩ := (S.sl 0 rfl).elim fun F h => h.head (by omega)
      obtain ⟨R2, o2, rfl⟩ : ∃ R o, a2 = some ⟨R, o, none⟩ := (S.sl 1 rfl).elim fun F h => h.head (by have := HL.out; omega)
      have hlt2 : (j : Int) < la.length := by omega
      have hsz := HSZ.out x (List.mem_of_getElem? hx)
      have HVI : Hid ((la.map BatV.vi)[j]? = some x.vi) := Lib.hid (by rw [List.getElem?_map, hx]; rfl)
      have HVB : Hid ((la.map fun x : BatV => x.b.ins)[j]? = some x.b.ins) := Lib.hid (by rw [List.getElem?_map, hx]; rfl)
      have HVO : Hid ((la.map BatV.vo)[j]? = some x.vo) := Lib.hid (by rw [List.getElem?_map, hx]; rfl)
      have HVS : Hid ((la.map fun x : BatV => x.b.sent)[j]? = some x.b.sent) := Lib.hid (by rw [List.getElem?_map, hx]; rfl)
      have HWI : Hid ((lb.map BatV.vi)[j]? = some y.vi) := Lib.hid (by rw [List.getElem?_map, hy]; rfl)
      have HWB : Hid ((lb.map fun x : BatV => x.b.ins)[j]? = some y.b.ins) := Lib.hid (by rw [List.getElem?_map, hy]; rfl)
      have HWO : Hid ((lb.map BatV.vo)[j]? = some y.vo) := Lib.hid (by rw [List.getElem?_map, hy]; rfl)
      have HWS : Hid ((lb.map fun x : BatV => x.b.sent)[j]? = some y.b.sent) := Lib.hid (by rw [List.getElem?_map, hy]; rfl)
      have HN : Hid ((!ceqs x.b.thn.cells y.b.thn.cells) = false) := Lib.hid (by rw [hb]; simp [State.cells, ceqs, ceq])
      have HE1 : Hid (∀ (w : World) (F1 F2 : Nat → Prop) (h1 : (Sl true Event.cells 7 x.vi x.b.ins).at_ w F1) (h2 : (Sl true Event.cells 7 y.vi y.b.ins).at_ w F2), Calls Tryz.prog 16 #[x.vi, y.vi] w fun r w' => r = .returned (.bool true) ∧ Below w.heap.size w w') := Lib.hid fun w F1 F2 h1 h2 =>
        (evseq_callsT _ _ _ _ w F1 F2 h1 h2 hsz.1 (by rw [hb]; exact hsz.1)).mono fun r w' ⟨h, hb2⟩ => ⟨by rw [h, hb]; simp, hb2⟩
      have HE2 : Hid (∀ (w : World) (F1 F2 : Nat → Prop) (h1 : (Sl true Event.cells 7 x.vo x.b.sent).at_ w F1) (h2 : (Sl true Event.cells 7 y.vo y.b.sent).at_ w F2), Calls Tryz.prog 16 #[x.vo, y.vo] w fun r w' => r = .returned (.bool true) ∧ Below w.heap.size w w') := Lib.hid fun w F1 F2 h1 h2 =>
        (evseq_callsT _ _ _ _ w F1 F2 h1 h2 hsz.2 (by rw [hb]; exact hsz.2)).mono fun r w' ⟨h, hb2⟩ => ⟨by rw [h, hb]; simp, hb2⟩
      have f1 : (x.b.at_ != y.b.at_) = false := by rw [hb]; simp
      have f2 : (x.b.lp != y.b.lp) = false := by rw [hb]; simp
      clear hsz hb
      have Hx := Lib.hid hx
      have Hy := Lib.hid hy
      clear hx hy
      go_wp2_with first | ((with_reducible apply wps_loada (T := 52) (k := 4) S 0); (case hx | hi => rfl); (case hk => exact Nat.le_of_ble_eq_true rfl); (case hT => decide +kernel))
      (refine wp_region_w (soft := [0, 1, 2, 3, 4, 5, 6, 7, 8, 9, 10, 11, 12, 13, 14, 15, 16, 17, 18, 19, 20, 21, 22, 23, 24, 25, 26, 27, 28, 29, 30, 31, 32, 33, 34, 35, 36, 37, 38, 39, 40, 41, 42, 43, 44, 45, 46, 47, 48, 49, 50, 51, 52, 53, 54, 55, 56, 57, 58, 59, 60, 61, 62, 63, 64]) S ?hm ?hB ?_); (case hm => kernel_rfl); (case hB => decide +kernel); clear S
      iterate 65
        (with_reducible apply softs_cons)
        (case hw =>
          (with_reducible apply soft_of); (case hi => rfl)
          intro T wz S
          simp only [List.cons_append, List.nil_append] at S
          go_wp2_with first | ((with_reducible apply wps_load_el S 0 (hj := Hx.out) (q := 0) (u := .int .i64 x.b.at_)); (case hx | hi => rfl); (case hn => omega); (case hu => rfl); (case hT => decide +kernel)) | ((with_reducible apply wps_load_el S 0 (hj := Hx.out) (q := 1) (u := .int .i64 x.b.lp)); (case hx | hi => rfl); (case hn => omega); (case hu => rfl); (case hT => decide +kernel)) | ((with_reducible apply wps_load_el S 0 (hj := Hx.out) (q := 2) (u := x.vi)); (case hx | hi => rfl); (case hn => omega); (case hu => rfl); (case hT => decide +kernel)) | ((with_reducible apply wps_loada_el S 0 (hj := Hx.out) (q := 3) (vs := [.int .i64 x.b.thn.n0, .int .i64 x.b.thn.n1, .int .i64 x.b.thn.n2, .int .i64 x.b.thn.n3]) (m := 4)); (case hx | hi => rfl); (case hn => omega); (case hm | hv => rfl); (case hT => decide +kernel)) | ((with_reducible apply wps_load_el S 0 (hj := Hx.out) (q := 7) (u := x.vo)); (case hx | hi => rfl); (case hn => omega); (case hu => rfl); (case hT => decide +kernel)) | ((with_reducible apply wps_load_el S 1 (hj := Hy.out) (q := 0) (u := .int .i64 y.b.at_)); (case hx | hi => rfl); (case hn => omega); (case hu => rfl); (case hT => decide +kernel)) | ((with_reducible apply wps_load_el S 1 (hj := Hy.out) (q := 1) (u := .int .i64 y.b.lp)); (case hx | hi => rfl); (case hn => omega); (case hu => rfl); (case hT => decide +kernel)) | ((with_reducible apply wps_load_el S 1 (hj := Hy.out) (q := 2) (u := y.vi)); (case hx | hi => rfl); (case hn => omega); (case hu => rfl); (case hT => decide +kernel)) | ((with_reducible apply wps_loada_el S 1 (hj := Hy.out) (q := 3) (vs := [.int .i64 y.b.thn.n0, .int .i64 y.b.thn.n1, .int .i64 y.b.thn.n2, .int .i64 y.b.thn.n3]) (m := 4)); (case hx | hi => rfl); (case hn => omega); (case hm | hv => rfl); (case hT => decide +kernel)) | ((with_reducible apply wps_load_el S 1 (hj := Hy.out) (q := 7) (u := y.vo)); (case hx | hi => rfl); (case hn => omega); (case hu => rfl); (case hT => decide +kernel)) | ((with_reducible apply wpList_neq_agg (t := 52) (ks := [.int .i64, .int .i64, .int .i64, .int .i64]) (b := _)); (case hx | hy => rfl); (case hl | ha | hg => kernel_rfl); (case hfx | hfy => rfl); (case hb => exact HN.out)) | (go_at_call 16; have hcz := HE1.out _ _ _ (sls_elB (S.get (i := 2) rfl).choose_spec HVI.out HVB.out) (sls_elB (S.get (i := 4) rfl).choose_spec HWI.out HWB.out); (with_reducible refine Calls.mono hcz ?_); clear hcz; rintro e wz ⟨rfl, hE⟩; replace S := S.ext (Keep.of_below hE); clear hE) | (go_at_call 16; have hcz := HE2.out _ _ _ (sls_elB (S.get (i := 3) rfl).choose_spec HVO.out HVS.out) (sls_elB (S.get (i := 5) rfl).choose_spec HWO.out HWS.out); (with_reducible refine Calls.mono hcz ?_); clear hcz; rintro e wz ⟨rfl, hE⟩; replace S := S.ext (Keep.of_below hE); clear hE) | ((with_reducible refine tot_done ?ht ?_); (case ht => kernel_rfl))
          exact ⟨rfl, S⟩)
        (case hs => exact ⟨_, rfl, by kernel_rfl⟩)
      refine softs_nil ?_
      (with_reducible apply W_done); (case hn => rfl); (case hr => decide +kernel)
      intro wz S
      simp only [List.append_nil] at S
      go_wp2_with first | ((with_reducible apply wps_loada (T := 52) (k := 4) S 0); (case hx | hi => rfl); (case hk => exact Nat.le_of_ble_eq_true rfl); (case hT => decide +kernel))
      go_roundw
      case rel => exact ⟨j + 1, by omega, by go_num, S⟩
      case measure => simp [intOf]; omega
    · obtain rfl : j = la.length := by omega
      go_wp2_with first | ((with_reducible apply wps_loada (T := 52) (k := 4) S 0); (case hx | hi => rfl); (case hk => exact Nat.le_of_ble_eq_true rfl); (case hT => decide +kernel))
      go_ret
      exact ⟨rfl, S.below⟩
end Go.Proofs.YtemgonomenjjaaaGreatDoor
/- Two shared lists of slices, as one. Over any program. -/
namespace Go.Proofs.YtemgonomenjjaaaGreatDoor
open Go Go.RowKit Reg Mem

/-- Two shared things are one. -/
theorem Mem.St.mergeT {G : Nat → Prop} {w0 w : World} {L : List Asn} {A B : Asn} (S : St G w0 w (A :: B :: L)) (C : Asn) (_ : A.sh = true) (_ : B.sh = true) (hC : C.sh = true) (h : ∀ F F', A.at_ w F → B.at_ w F' → C.at_ w (fun b => F b ∨ F' b)) : St G w0 w (C :: L) := by
  obtain ⟨Fs, hf, hd⟩ := S.ex
  have a := hf 0 A rfl
  have b := hf 1 B rfl
  refine ⟨S.keep, fun j => match j with | 0 => fun x => Fs 0 x ∨ Fs 1 x | j + 1 => Fs (j + 2), fun j D hj => ?_, fun j k D E hjk hj hk => ?_⟩
  · cases j with
    | zero => simp at hj; subst hj; exact ⟨h _ _ a.1 b.1, fun e => by rw [hC] at e; cases e⟩
    | succ j => simp at hj; exact hf (j + 2) D (by simpa using hj)
  · cases k with
    | zero => omega
    | succ k =>
      simp at hk
      cases j with
      | zero =>
        simp at hj; subst hj
        rcases hd 0 (k + 2) A E (by omega) rfl (by simpa using hk) with ⟨_, e⟩ | e
        · exact .inl ⟨hC, e⟩
        · rcases hd 1 (k + 2) B E (by omega) rfl (by simpa using hk) with ⟨_, e2⟩ | e2
          · exact .inl ⟨hC, e2⟩
          · exact .inr fun x hx hx' => hx.elim (fun g => e x g hx') (fun g => e2 x g hx')
      | succ j => simp at hj; exact hd (j + 2) (k + 2) D E (by omega) (by simpa using hj) (by simpa using hk)
theorem Mem.St.slsAppendT {G : Nat → Prop} {w0 w : World} {L : List Asn} {α : Type} {enc : α → List Value} {k : Nat} {vs vs' : List Value} {xss xss' : List (List α)} (S : St G w0 w (Sls true enc k vs xss :: Sls true enc k vs' xss' :: L)) : St G w0 w (Sls true enc k (vs ++ vs') (xss ++ xss') :: L) :=
  Mem.St.mergeT S _ rfl rfl rfl fun F F' h h' => by
    refine ⟨⟨by simp [h'.1.1, h.1.1], fun j u ys hu hy => ?_⟩, fun b hb => hb.elim (h.2 b) (h'.2 b)⟩
    by_cases hj : j < vs.length
    · rw [List.getElem?_append_left hj] at hu
      rw [List.getElem?_append_left (by rw [← h.1.1]; exact hj)] at hy
      exact (h.1.2 j u ys hu hy).mono fun _ => .inl
    · rw [List.getElem?_append_right (by omega)] at hu
      rw [List.getElem?_append_right (by have := h.1.1; omega)] at hy
      rw [← h.1.1] at hy
      exact (h'.1.2 _ u ys hu hy).mono fun _ => .inr
end Go.Proofs.YtemgonomenjjaaaGreatDoor
/- The walks of a heap's inner functions: ahead, swap, up, down, and New. -/
namespace Go.Proofs.YtemgonomenjjaaaGreatDoor
open Go.RowKit Reg Mem

def Row.cells (r : Row) : List Value := (#[.int .i64 r.key.at_, .int .i64 r.key.src, .int .i64 r.key.sent, .int .i64 r.key.no, .int .i64 r.v.key.at_, .int .i64 r.v.key.src, .int .i64 r.v.key.sent, .int .i64 r.v.key.no, .int .i64 r.v.dst, .int .i64 r.v.kind, .int .i64 r.v.data]).toList
theorem hcells : ∀ r : Row, r.cells.length = 11 := fun _ => rfl
theorem hone : ∀ r : Row, ∀ u ∈ r.cells, u.oneCell' = true := fun _ => by simp [Row.cells, Value.oneCell']
set_option maxRecDepth 100000 in
theorem elem_Row : Elem Tryz.prog 179 186 11 88 := ⟨_, .agg #[.int .i64 0, .int .i64 0, .int .i64 0, .int .i64 0, .int .i64 0, .int .i64 0, .int .i64 0, .int .i64 0, .int .i64 0, .int .i64 0, .int .i64 0], Tryz.underlying179, rfl, by kernel_rfl, by kernel_rfl, by kernel_rfl, by kernel_rfl, by omega⟩
def keyed : Keyed Tryz.prog 76 Key.cells :=
  ⟨[.int .i64, .int .i64, .int .i64, .int .i64], by kernel_rfl, fun _ => rfl, fun a b => by
    obtain ⟨a1, a2, a3, a4⟩ := a; obtain ⟨b1, b2, b3, b4⟩ := b
    simp only [Key.cells, ceqs, ceq, Bool.and_true, Key.mk.injEq]
    rw [Bool.eq_iff_iff]; simp⟩
theorem wholeKey (k : Key) : whole Tryz.prog 76 (Key.cells k) = .agg #[.int .i64 k.at_, .int .i64 k.src, .int .i64 k.sent, .int .i64 k.no] := by kernel_rfl
/-- A heap's blocks. -/
def rawH (B M : Nat) (v : Value) (rows : List Row) : Asn := sep false (Blk false B #[v, .map (some M)] 181) (sep false (MapA false Tryz.prog 76 Key.cells M (posMap rows)) (Own 186 Row.cells 11 v rows))
theorem rawH_open {G : Nat → Prop} {w0 w : World} {L : List Asn} {B M : Nat} {v : Value} {rows : List Row} (S : St G w0 w (rawH B M v rows :: L)) :
    St G w0 w (MapA false Tryz.prog 76 Key.cells M (posMap rows) :: Own 186 Row.cells 11 v rows :: Blk false B #[v, .map (some M)] 181 :: L) := ((S.open_sep rfl rfl).swap2).open_sep rfl rfl
theorem rawH_st {B M : Nat} {v : Value} {rows : List Row} {w : World} {F : Nat → Prop} (h : (rawH B M v rows).at_ w F) :
    St F w w [MapA false Tryz.prog 76 Key.cells M (posMap rows), Own 186 Row.cells 11 v rows, Blk false B #[v, .map (some M)] 181] := rawH_open (St.one w h)
theorem rawH_close {G : Nat → Prop} {w0 w : World} {L : List Asn} {B M : Nat} {v : Value} {rows : List Row} (S : St G w0 w (MapA false Tryz.prog 76 Key.cells M (posMap rows) :: Own 186 Row.cells 11 v rows :: Blk false B #[v, .map (some M)] 181 :: L)) :
    St G w0 w (rawH B M v rows :: L) := (S.close_sep rfl rfl).swap2.close_sep rfl rfl
/-- A heap that is only read. -/
theorem rawR_st {B M : Nat} {v : Value} {rows : List Row} {w : World} {F : Nat → Prop} (h : (rawH B M v rows).at_ w F) :
    St (fun _ => False) w w [MapA true Tryz.prog 76 Key.cells M (posMap rows), Sl true Row.cells 11 v rows, Blk true B #[v, .map (some M)] 181] := by
  obtain ⟨F1, F2, h1, ⟨F3, F4, h3, h4, _, _⟩, _, _⟩ := h
  have S0 : St (fun _ => False) w w [Blk true B #[v, .map (some M)] 181] := (St.init _ w).share rfl rfl h1
  have S1 := S0.share (A := Sl true Row.cells 11 v rows) rfl rfl (own_sl (sh := true) hcells h4)
  exact S1.share (A := MapA true Tryz.prog 76 Key.cells M (posMap rows)) rfl rfl h3
theorem own_head {G : Nat → Prop} {w0 w : World} {L : List Asn} {v : Value} {rows : List Row} (i : Nat) (S : St G w0 w L) (hi : L[i]? = some (Own 186 Row.cells 11 v rows)) (h0 : 0 < rows.length) : ∃ R c, v = .slice (some ⟨R, 0, none⟩) rows.length c ∧ rows.length ≤ c := by
  obtain ⟨F1, h1, _⟩ := S.get hi
  obtain ⟨R, c, cur, e, hO⟩ := h1.some (by omega)
  exact ⟨R, c, e, hO.le⟩
theorem ahead_calls (B M i j : Nat) (v : Value) (rows : List Row) (r r' : Row) (w : World) (F : Nat → Prop) (h : (rawH B M v rows).at_ w F) (hi : rows[i]? = some r) (hj : rows[j]? = some r') :
    Calls Tryz.prog 129 #[.pointer (some ⟨B, 0, none⟩), .int .i64 i, .int .i64 j] w fun e w' => e = .returned (.bool (r.key.lt r'.key)) ∧ Below w.heap.size w w' := by
  have S := rawR_st h
  have hi1 : (i : Int) < rows.length := by have := (List.getElem?_eq_some_iff.1 hi).1; omega
  have hj1 : (j : Int) < rows.length := by have := (List.getElem?_eq_some_iff.1 hj).1; omega
  obtain ⟨ad, cp, rfl, _⟩ := (S.sl 1 rfl).elim fun _ h => h.form
  obtain ⟨R, o, rfl⟩ : ∃ R o, ad = some ⟨R, o, none⟩ := (S.sl 1 rfl).elim fun F h => h.head (by omega)
  have Hi := Lib.hid hi
  have Hj := Lib.hid hj
  clear hi hj
  clear h
  go_enter Tryz.func129, Tryz.ntmps129
  go_wp2_with first | ((with_reducible apply wps_loada_el S 1 (hj := Hi.out) (q := 0) (vs := [.int .i64 r.key.at_, .int .i64 r.key.src, .int .i64 r.key.sent, .int .i64 r.key.no]) (m := 4)); (case hx | hi => rfl); (case hn => omega); (case hm | hv => rfl); (case hT => decide +kernel)) | ((with_reducible apply wps_loada_el S 1 (hj := Hj.out) (q := 0) (vs := [.int .i64 r'.key.at_, .int .i64 r'.key.src, .int .i64 r'.key.sent, .int .i64 r'.key.no]) (m := 4)); (case hx | hi => rfl); (case hn => omega); (case hm | hv => rfl); (case hT => decide +kernel)) | (go_at_call 95; refine Calls.mono (compare_calls _ _ _ _ _ _ _ _ _) ?_; rintro e wz ⟨rfl, hE⟩; replace S := S.ext (Keep.of_below hE); clear hE) | ((with_reducible refine tot_done ?ht ?_); (case ht => kernel_rfl)) | ((with_reducible apply wps_text S); (case hm => kernel_rfl); (case hB => decide +kernel); clear S; intro wz S) | ((with_reducible apply wps_load S 2); (case hx | hi | hu => rfl); (case hT => decide +kernel))
  go_ret
  exact ⟨ret_bool (Key.cmp_neg _ _), S.below⟩
def HPost (F : Nat → Prop) (B M : Nat) (v : Value) (rows : List Row) (w : World) (e : Ending) (w' : World) : Prop := e = .returned (.tuple #[]) ∧ St F w w' [rawH B M v rows]
theorem ahead_int (B M : Nat) (i j : Int) (v : Value) (rows : List Row) (r r' : Row) (w : World) (F : Nat → Prop) (h : (rawH B M v rows).at_ w F) (hi0 : 0 ≤ i) (hj0 : 0 ≤ j) (hi : rows[i.toNat]? = some r) (hj : rows[j.toNat]? = some r') :
    Calls Tryz.prog 129 #[.pointer (some ⟨B, 0, none⟩), .int .i64 i, .int .i64 j] w fun e w' => e = .returned (.bool (r.key.lt r'.key)) ∧ Below w.heap.size w w' := by
  obtain ⟨n, rfl⟩ := Int.eq_ofNat_of_zero_le hi0
  obtain ⟨m, rfl⟩ := Int.eq_ofNat_of_zero_le hj0
  exact ahead_calls B M n m v rows r r' w F h hi hj
set_option maxHeartbeats 1000000 in
set_option maxRecDepth 100000 in
theorem swap_calls (B M i j : Nat) (v : Value) (rows : List Row) (r r' : Row) (w : World) (F : Nat → Prop) (h : (rawH B M v rows).at_ w F) (hd : (rows.map (·.key)).Nodup) (hi : rows[i]? = some r) (hj : rows[j]? = some r') (hne : i ≠ j) :
    Calls Tryz.prog 130 #[.pointer (some ⟨B, 0, none⟩), .int .i64 i, .int .i64 j] w (HPost F B M v (xch rows i j r r') w) := by
  have S := rawH_st h
  have hi1 : (i : Int) < rows.length := by have := (List.getElem?_eq_some_iff.1 hi).1; omega
  have hj1 : (j : Int) < rows.length := by have := (List.getElem?_eq_some_iff.1 hj).1; omega
  obtain ⟨R, cp, rfl, _⟩ := own_head 1 S rfl (by omega)
  have HJ2 := Lib.hid (show (rows.set i r')[j]? = some r' by rw [List.getElem?_set_ne hne]; exact hj)
  have HI3 := Lib.hid (show ((rows.set i r').set j r)[i]? = some r' by show (xch rows i j r r')[i]? = _; rw [xch_get hi hj, if_neg hne, if_pos rfl])
  have HJ3 := Lib.hid (show ((rows.set i r').set j r)[j]? = some r by show (xch rows i j r r')[j]? = _; rw [xch_get hi hj, if_pos rfl])
  have HE := Lib.hid (posMap_xch hd hi hj (xch_perm hi hj))
  have Hi := Lib.hid hi
  have Hj := Lib.hid hj
  clear hi hj
  clear h hd
  go_enter Tryz.func130, Tryz.ntmps130
  go_wp2_with first | ((with_reducible apply wps_loada_own hcells S 1 (hj := Hi.out) (q := 0) (vs := [.int .i64 r.key.at_, .int .i64 r.key.src, .int .i64 r.key.sent, .int .i64 r.key.no, .int .i64 r.v.key.at_, .int .i64 r.v.key.src, .int .i64 r.v.key.sent, .int .i64 r.v.key.no, .int .i64 r.v.dst, .int .i64 r.v.kind, .int .i64 r.v.data]) (m := 11)); (case hx | hi => rfl); (case hn => omega); (case hm | hv => rfl); (case hT => decide +kernel)) | ((with_reducible apply wps_loada_own hcells S 1 (hj := Hj.out) (q := 0) (vs := [.int .i64 r'.key.at_, .int .i64 r'.key.src, .int .i64 r'.key.sent, .int .i64 r'.key.no, .int .i64 r'.v.key.at_, .int .i64 r'.v.key.src, .int .i64 r'.v.key.sent, .int .i64 r'.v.key.no, .int .i64 r'.v.dst, .int .i64 r'.v.kind, .int .i64 r'.v.data]) (m := 11)); (case hx | hi => rfl); (case hn => omega); (case hm | hv => rfl); (case hT => decide +kernel)) | ((with_reducible apply wps_store_owna hcells S 1 (hj := Hi.out) (e' := r') (q := 0) (vs := [.int .i64 r'.key.at_, .int .i64 r'.key.src, .int .i64 r'.key.sent, .int .i64 r'.key.no, .int .i64 r'.v.key.at_, .int .i64 r'.v.key.src, .int .i64 r'.v.key.sent, .int .i64 r'.v.key.no, .int .i64 r'.v.dst, .int .i64 r'.v.kind, .int .i64 r'.v.data]) (m := 11)); (case hx => rfl); (case hn => omega); (case hi | hy | hm | h1 | he => rfl); (case hq => exact Nat.le_of_ble_eq_true rfl); (case hT => decide +kernel); clear S; intro wz S; simp only [List.set_cons_succ, List.set_cons_zero] at S) | ((with_reducible apply wps_store_owna hcells S 1 (hj := HJ2.out) (e' := r) (q := 0) (vs := [.int .i64 r.key.at_, .int .i64 r.key.src, .int .i64 r.key.sent, .int .i64 r.key.no, .int .i64 r.v.key.at_, .int .i64 r.v.key.src, .int .i64 r.v.key.sent, .int .i64 r.v.key.no, .int .i64 r.v.dst, .int .i64 r.v.kind, .int .i64 r.v.data]) (m := 11)); (case hx => rfl); (case hn => omega); (case hi | hy | hm | h1 | he => rfl); (case hq => exact Nat.le_of_ble_eq_true rfl); (case hT => decide +kernel); clear S; intro wz S; simp only [List.set_cons_succ, List.set_cons_zero] at S) | ((with_reducible apply wps_loada_own hcells S 1 (hj := HI3.out) (q := 0) (vs := [.int .i64 r'.key.at_, .int .i64 r'.key.src, .int .i64 r'.key.sent, .int .i64 r'.key.no]) (m := 4)); (case hx | hi => rfl); (case hn => omega); (case hm | hv => rfl); (case hT => decide +kernel)) | ((with_reducible apply wps_loada_own hcells S 1 (hj := HJ3.out) (q := 0) (vs := [.int .i64 r.key.at_, .int .i64 r.key.src, .int .i64 r.key.sent, .int .i64 r.key.no]) (m := 4)); (case hx | hi => rfl); (case hn => omega); (case hm | hv => rfl); (case hT => decide +kernel)) | ((with_reducible apply wps_mapUpdate keyed Tryz.underlying178 S 0 (k := r'.key) (v := .int .i64 i)); (case hx | hi => rfl); (case hy => exact (wholeKey _).symm); (case hz => rfl); clear S; intro wz S; simp only [List.set_cons_zero] at S) | ((with_reducible apply wps_mapUpdate keyed Tryz.underlying178 S 0 (k := r.key) (v := .int .i64 j)); (case hx | hi => rfl); (case hy => exact (wholeKey _).symm); (case hz => rfl); clear S; intro wz S; simp only [List.set_cons_zero] at S) | ((with_reducible refine tot_done ?ht ?_); (case ht => kernel_rfl)) | ((with_reducible apply wps_text S); (case hm => kernel_rfl); (case hB => decide +kernel); clear S; intro wz S) | ((with_reducible apply wps_load S 2); (case hx | hi | hu => rfl); (case hT => decide +kernel))
  go_end0
  refine ⟨rfl, ?_⟩
  rw [HE.out] at S
  exact rawH_close S
end Go.Proofs.YtemgonomenjjaaaGreatDoor
/- The walks of a heap's up and down. -/
namespace Go.Proofs.YtemgonomenjjaaaGreatDoor
open Go.RowKit Reg Mem

theorem swap_int (B M : Nat) (i j : Int) (v : Value) (rows : List Row) (r r' : Row) (w : World) (F : Nat → Prop) (h : (rawH B M v rows).at_ w F) (hd : (rows.map (·.key)).Nodup) (hi0 : 0 ≤ i) (hj0 : 0 ≤ j) (hi : rows[i.toNat]? = some r) (hj : rows[j.toNat]? = some r') (hne : i ≠ j) (n m : Nat) (hn : i.toNat = n) (hm : j.toNat = m) :
    Calls Tryz.prog 130 #[.pointer (some ⟨B, 0, none⟩), .int .i64 i, .int .i64 j] w (HPost F B M v (xch rows n m r r') w) := by
  obtain ⟨n, rfl⟩ := Int.eq_ofNat_of_zero_le hi0
  obtain ⟨m, rfl⟩ := Int.eq_ofNat_of_zero_le hj0
  subst hn hm
  exact swap_calls B M n m v rows r r' w F h hd hi hj (by omega)
theorem nodup_perm {a b : List Row} (h : a.Perm b) (hd : (b.map (·.key)).Nodup) : (a.map (·.key)).Nodup := ((h.map (·.key)).nodup_iff).2 hd
def UpRel (F : Nat → Prop) (B M : Nat) (v : Value) (rows : List Row) (i0 : Nat) (w : World) (i : Value) (wr : World) : Prop :=
  ∃ (k f : Nat) (rs : List Row), i = .int .i64 k ∧ k ≤ f ∧ rs.Perm rows ∧ k < rs.length ∧ hup i0 rows i0 = hup f rs k ∧ St F w wr [rawH B M v rs]
set_option maxHeartbeats 1000000 in
set_option maxRecDepth 100000 in
theorem up_calls (B M i : Nat) (v : Value) (rows : List Row) (w : World) (F : Nat → Prop) (h : (rawH B M v rows).at_ w F) (hd : (rows.map (·.key)).Nodup) (hi : i < rows.length) (hmax : rows.length ≤ 4294967296) :
    Calls Tryz.prog 120 #[.pointer (some ⟨B, 0, none⟩), .int .i64 i] w (HPost F B M v (hup i rows i) w) := by
  have S := St.one w h
  have Hd := Lib.hid hd
  clear h hd
  go_enter Tryz.func120, Tryz.ntmps120
  go_wp2_with first | ((with_reducible refine tot_done ?ht ?_); (case ht => kernel_rfl))
  go_loopw [1] (fun i' wr => UpRel F B M v rows i w i' wr) (fun i' _ => (intOf i').toNat)
  case atStart => exact ⟨i, i, rows, rfl, Nat.le_refl _, .refl _, hi, rfl, S⟩
  case round =>
    clear S
    obtain ⟨k, f, rs, rfl, hf, hperm, hk, heq, S⟩ := hrel
    have hlen := hperm.length_eq
    have hp : (k - 1) / 2 < rs.length := by omega
    obtain ⟨r, hr⟩ : ∃ r, rs[k]? = some r := ⟨_, List.getElem?_eq_getElem hk⟩
    obtain ⟨p, hpr⟩ : ∃ r, rs[(k - 1) / 2]? = some r := ⟨_, List.getElem?_eq_getElem hp⟩
    have hk1 : (k : Int) ≤ 4294967296 := by omega
    have HD := Lib.hid (nodup_perm hperm Hd.out)
    have HEQ := Lib.hid heq
    have HR := Lib.hid hr
    have HP := Lib.hid hpr
    have HL := Lib.hid hlen
    have HPM := Lib.hid hperm
    clear heq hr hpr hlen hperm
    by_cases h0 : 0 < k
    · have h0' : (0 : Int) < k := by omega
      have en : (((k : Int) - 1) / 2).toNat = (k - 1) / 2 := by omega
      have EN := Lib.hid en
      clear en
      have HP2 := Lib.hid (show rs[(((k : Int) - 1) / 2).toNat]? = some p by rw [EN.out]; exact HP.out)
      have HR2 := Lib.hid (show rs[((k : Int)).toNat]? = some r by rw [Int.toNat_natCast]; exact HR.out)
      cases hc : r.key.lt p.key with
      | true =>
        have Hc := Lib.hid hc
        clear hc
        go_wp2_with first | (go_at_call 129; refine Calls.mono (ahead_int _ _ _ _ _ _ _ _ _ _ (S.get (i := 0) rfl).choose_spec (by omega) (by omega) HR2.out HP2.out) ?_; rintro e wz ⟨rfl, hE⟩; rw [Hc.out]; replace S := S.ext (Keep.of_below hE); clear hE) | (go_at_call 130; obtain ⟨Fz, hF, hBk⟩ := S.lend1 0 rfl rfl; refine Calls.mono (swap_int _ _ _ _ _ _ _ _ _ _ hF HD.out (by omega) (by omega) HR2.out HP2.out (by omega) k ((k - 1) / 2) (by omega) EN.out) ?_; rintro e wz ⟨rfl, T⟩; replace S := hBk _ _ rfl T; clear hBk hF T; simp only [List.set_cons_zero] at S)
        go_roundw
        case rel =>
          refine ⟨(k - 1) / 2, f - 1, _, by go_num, by omega, (xch_perm HR.out HP.out).trans HPM.out, by rw [xch_length]; omega, ?_, S⟩
          rw [HEQ.out, hup_go HR.out HP.out h0 (hcmp_neg.2 Hc.out) (by omega)]
        case measure => simp [intOf]; omega
      | false =>
        have Hc := Lib.hid hc
        clear hc
        go_wp2_with first | (go_at_call 129; refine Calls.mono (ahead_int _ _ _ _ _ _ _ _ _ _ (S.get (i := 0) rfl).choose_spec (by omega) (by omega) HR2.out HP2.out) ?_; rintro e wz ⟨rfl, hE⟩; rw [Hc.out]; replace S := S.ext (Keep.of_below hE); clear hE)
        go_end0
        refine ⟨rfl, ?_⟩
        rw [HEQ.out, hup_stop HR.out HP.out (.inr (fun e => by have := hcmp_neg.1 e; rw [Hc.out] at this; cases this))]
        exact S
    · have h0' : decide ((0 : Int) < k) = false := by simp; omega
      go_wp2_with first | ((with_reducible refine tot_done ?ht ?_); (case ht => kernel_rfl))
      go_end0
      refine ⟨rfl, ?_⟩
      rw [HEQ.out, hup_stop HR.out HP.out (.inl (by omega))]
      exact S
def DownRel (F : Nat → Prop) (B M : Nat) (v : Value) (rows : List Row) (i0 : Nat) (w : World) (i : Value) (wr : World) : Prop :=
  ∃ (k f : Nat) (rs : List Row), i = .int .i64 k ∧ rs.length ≤ k + f ∧ rs.Perm rows ∧ k < rs.length ∧ hdown rows.length rows i0 = hdown f rs k ∧ St F w wr [rawH B M v rs]
def DownIn (F : Nat → Prop) (B M : Nat) (v : Value) (rs : List Row) (k : Nat) (w : World) (c j : Value) (wr : World) : Prop :=
  ∃ t : Nat, t ≤ 2 ∧ c = .int .i64 (stage rs k t : Nat) ∧ j = .int .i64 (2 * k + 1 + t : Nat) ∧ St F w wr [MapA false Tryz.prog 76 Key.cells M (posMap rs), Own 186 Row.cells 11 v rs, Blk false B #[v, .map (some M)] 181]
set_option maxHeartbeats 2000000 in
set_option maxRecDepth 100000 in
theorem down_calls (B M i : Nat) (v : Value) (rows : List Row) (w : World) (F : Nat → Prop) (h : (rawH B M v rows).at_ w F) (hd : (rows.map (·.key)).Nodup) (hi : i < rows.length) (hmax : rows.length ≤ 4294967296) :
    Calls Tryz.prog 131 #[.pointer (some ⟨B, 0, none⟩), .int .i64 i] w (HPost F B M v (hdown rows.length rows i) w) := by
  have S := St.one w h
  have Hd := Lib.hid hd
  clear h hd
  go_enter Tryz.func131, Tryz.ntmps131
  go_wp2_with first | ((with_reducible apply wps_load S 3); (case hx | hi | hu => rfl); (case hT => decide +kernel))
  go_loopw [1] (fun i' wr => DownRel F B M v rows i w i' wr) (fun i' _ => rows.length - (intOf i').toNat)
  case atStart => exact ⟨i, rows.length, rows, rfl, by omega, .refl _, hi, rfl, S⟩
  case round =>
    clear S
    obtain ⟨k, f, rs, rfl, hf, hperm, hk, heq, S⟩ := hrel
    have hlen := hperm.length_eq
    have hk1 : (k : Int) ≤ 4294967296 := by omega
    have HD := Lib.hid (nodup_perm hperm Hd.out)
    have HEQ := Lib.hid heq
    have HL := Lib.hid hlen
    have HPM := Lib.hid hperm
    clear heq hlen hperm
    replace S := rawH_open S
    obtain ⟨R, cp, rfl, _⟩ := own_head 1 S rfl (by omega)
    go_wp2_with first | ((with_reducible apply wps_load S 3); (case hx | hi | hu => rfl); (case hT => decide +kernel))
    go_loopw [4, 5] (fun c j wr => DownIn F B M _ rs k w c j wr) (fun _ j _ => 2 * k + 4 - (intOf j).toNat)
    case atStart => exact ⟨0, by omega, rfl, by go_num, S⟩
    case round =>
      clear S
      obtain ⟨t, ht, rfl, rfl, S⟩ := hrel
      have hst := stage_lt hk t
      generalize hs : stage rs k t = s at hst ⊢
      have HS := Lib.hid hs
      clear hs
      have hlen2 : (rs.length : Int) ≤ 4294967296 := by rw [HL.out]; omega
      by_cases hgo : t < 2 ∧ 2 * k + 1 + t < rs.length
      · obtain ⟨hg1, hg2⟩ := hgo
        obtain ⟨x, hx⟩ : ∃ x, rs[2 * k + 1 + t]? = some x := ⟨_, List.getElem?_eq_getElem hg2⟩
        obtain ⟨y, hy⟩ : ∃ x, rs[s]? = some x := ⟨_, List.getElem?_eq_getElem hst⟩
        have hg2' : ((2 * k + 1 + t : Nat) : Int) < rs.length := by omega
        have hg1' : ((2 * k + 1 + t : Nat) : Int) ≤ 2 * (k : Int) + 2 := by omega
        generalize hj : 2 * k + 1 + t = j at hg2 hg2' hg1' hx ⊢
        have HJ := Lib.hid hj
        have hjl : (j : Int) ≤ 4294967296 := by omega
        have Hx := Lib.hid hx
        have Hy := Lib.hid hy
        clear hx hy
        clear hj
        cases hc : x.key.lt y.key with
        | true =>
          have Hc := Lib.hid hc
          clear hc
          go_wp2_with first | (go_at_call 129; refine Calls.mono (ahead_int _ _ _ _ _ _ _ _ _ _ ((rawH_close S).get (i := 0) rfl).choose_spec (by omega) (by omega) (by rw [Int.toNat_natCast]; exact Hx.out) (by rw [Int.toNat_natCast]; exact Hy.out)) ?_; rintro e wz ⟨rfl, hE⟩; rw [Hc.out]; replace S := S.ext (Keep.of_below hE); clear hE) | ((with_reducible apply wps_load S 2); (case hx | hi | hu => rfl); (case hT => decide +kernel))
          go_roundw
          case rel =>
            refine ⟨t + 1, by omega, ?_, by have := HJ.out; go_num, S⟩
            have e : stage rs k (t + 1) = j := by simp only [stage, hcand]; rw [HJ.out, Hx.out, HS.out, Hy.out]; simp only; rw [if_pos (hcmp_neg.2 Hc.out)]
            rw [e]
          case measure => have := HJ.out; simp [intOf]; omega
        | false =>
          have Hc := Lib.hid hc
          clear hc
          go_wp2_with first | (go_at_call 129; refine Calls.mono (ahead_int _ _ _ _ _ _ _ _ _ _ ((rawH_close S).get (i := 0) rfl).choose_spec (by omega) (by omega) (by rw [Int.toNat_natCast]; exact Hx.out) (by rw [Int.toNat_natCast]; exact Hy.out)) ?_; rintro e wz ⟨rfl, hE⟩; rw [Hc.out]; replace S := S.ext (Keep.of_below hE); clear hE) | ((with_reducible apply wps_load S 2); (case hx | hi | hu => rfl); (case hT => decide +kernel))
          go_roundw
          case rel =>
            refine ⟨t + 1, by omega, ?_, by have := HJ.out; go_num, S⟩
            have e : stage rs k (t + 1) = s := by simp only [stage, hcand]; rw [HJ.out, Hx.out, HS.out, Hy.out]; exact if_neg (fun e => by have := hcmp_neg.1 e; rw [Hc.out] at this; cases this)
            rw [e]
          case measure => have := HJ.out; simp [intOf]; omega
      · have hdone : t = 2 ∨ rs.length ≤ 2 * k + 1 + t := by omega
        have hsd : s = stage rs k 2 := by rw [← HS.out]; exact stage_done ht hdone
        have HSD := Lib.hid hsd
        have hso : s = k ∨ k < s := by rw [hsd]; exact stage_or 2
        have hexit : decide (((2 * k + 1 + t : Nat) : Int) ≤ 2 * (k : Int) + 2) = false ∨ (((2 * k + 1 + t : Nat) : Int) ≤ 2 * (k : Int) + 2 ∧ decide (2 * k + 1 + t < rs.length) = false) := by
          rcases hdone with h | h
          · left; simp; omega
          · by_cases h2 : ((2 * k + 1 + t : Nat) : Int) ≤ 2 * (k : Int) + 2
            · right; exact ⟨h2, by simp; omega⟩
            · left; simp; omega
        generalize hj : 2 * k + 1 + t = j at hexit ⊢
        have HJ1 : (j : Int) ≤ 17179869186 := by omega
        clear hj hsd hdone hgo
        by_cases hsk : s = k
        · subst hsk
          have hss : ((s : Int) == (s : Int)) = true := by simp
          rcases hexit with hx1 | ⟨hx1, hx2⟩
          all_goals
            go_wp2_with first | ((with_reducible apply wps_load S 2); (case hx | hi | hu => rfl); (case hT => decide +kernel))
            go_end0
            refine ⟨rfl, ?_⟩
            rw [HEQ.out, hdown_stop HSD.out.symm]
            exact rawH_close S
        · have hsne : ((s : Int) == (k : Int)) = false := by simp; omega
          obtain ⟨x, hx⟩ : ∃ x, rs[k]? = some x := ⟨_, List.getElem?_eq_getElem hk⟩
          obtain ⟨y, hy⟩ : ∃ x, rs[s]? = some x := ⟨_, List.getElem?_eq_getElem hst⟩
          have hks : k < s := by rcases hso with h | h; exact absurd h hsk; exact h
          clear hso
          have Hx := Lib.hid hx
          have Hy := Lib.hid hy
          have Hsk := Lib.hid hsk
          clear hx hy hsk
          rcases hexit with hx1 | ⟨hx1, hx2⟩
          all_goals
            go_wp2_with first | ((with_reducible apply wps_load S 2); (case hx | hi | hu => rfl); (case hT => decide +kernel))
            replace S := rawH_close S
            go_wp2_with first | (go_at_call 130; obtain ⟨Fz, hF, hBk⟩ := S.lend1 0 rfl rfl; refine Calls.mono (swap_int _ _ _ _ _ _ _ _ _ _ hF HD.out (by omega) (by omega) (by rw [Int.toNat_natCast]; exact Hx.out) (by rw [Int.toNat_natCast]; exact Hy.out) (by omega) k s (by omega) (by omega)) ?_; rintro e wz ⟨rfl, T⟩; replace S := hBk _ _ rfl T; clear hBk hF T; simp only [List.set_cons_zero] at S)
            go_roundw
            case rel =>
              refine ⟨s, f - 1, _, rfl, by rw [xch_length]; omega, (xch_perm Hx.out Hy.out).trans HPM.out, by rw [xch_length]; exact hst, ?_, S⟩
              rw [HEQ.out, hdown_go (r := x) (p := y) (by rw [← HSD.out]; exact Hsk.out) Hx.out (by rw [← HSD.out]; exact Hy.out) (by omega), ← HSD.out]
            case measure => have := HL.out; simp [intOf]; omega
end Go.Proofs.YtemgonomenjjaaaGreatDoor

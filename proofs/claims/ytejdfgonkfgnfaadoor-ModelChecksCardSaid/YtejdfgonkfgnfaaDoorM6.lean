import Derived.Test.YtejdfgonkfgnfaaDoorM2
import Derived.Test.YtejdfgonkfgnfaaDoorEvP
import Derived.Test.YtejdfgonkfgnfaaDoorM5
import Derived.Test.YtejdfgonkfgnfaaDoorRoom
/- The walk of the law ModelKeeps. -/
namespace Go.Proofs.YtejdfgonkfgnfaaDoor
open Go Go.RowKit Reg Mem

theorem few_midK {c : Cfg} (h : fewB c = true) : Mid c := by
  have := few_iff.1 h; exact ⟨by omega, by omega, by omega⟩
theorem few_midK2 {c : Cfg} (h : fewB c = true) : ∀ p ∈ c.programs, p.length ≤ 65536 := fun p hp => by
  have := (few_iff.1 h).1 p hp; omega
/-- A slice's head. -/
structure Hd where
  ad : Option Addr
  n : Nat
  c : Nat
def Hd.val (h : Hd) : Value := .slice h.ad h.n h.c
def hcell (h : Hd) : List Value := [.slice h.ad h.n h.c]
theorem hcells : ∀ h : Hd, (hcell h).length = 1 := fun _ => rfl
theorem hone : ∀ h : Hd, ∀ u ∈ hcell h, u.oneCell' = true := fun _ => by simp [hcell, Value.oneCell']
set_option maxRecDepth 100000 in
theorem elem_Hd : Elem Tryd.prog 22 44 1 24 := ⟨_, .slice none 0 0, Tryd.underlying22, rfl, by kernel_rfl, by kernel_rfl, by kernel_rfl, by kernel_rfl, by omega⟩
def KRel1 (bx bm : Nat) (aP : Option Addr) (cP : Nat) (vL vS : Value) (hs : List Value) (c : Cfg) (w : World) (i : Value) (wr : World) : Prop :=
  ∃ (j : Nat) (gs : List Hd) (ad : Option Addr) (cp : Nat), j ≤ c.programs.length ∧ i = .int .i64 j ∧ gs.length = j ∧ Hid (∀ g ∈ gs, g.n ≤ 65536) ∧
    St (fun _ => False) w wr [Blk false bx #[.slice aP c.programs.length cP, vL, vS, .int .i64 c.fin, .int .i64 c.fuel, .int .i64 c.fan] 26, Sls true Instr.cells 5 hs c.programs, Sl true vcell 1 (.slice aP c.programs.length cP) hs,
      Blk false bm #[.slice ad j cp, vL, vS, .int .i64 c.fin, .int .i64 c.fuel, .int .i64 c.fan] 26, Own 44 hcell 1 (.slice ad j cp) gs, Ows 52 Instr.cells 5 (gs.map Hd.val) (c.programs.take j), Sl true Place.cells 5 vL c.lps, Sl true Start.cells 4 vS c.starts, Tab]
theorem slat_map {α β : Type} {enc : α → List Value} {enc' : β → List Value} {k : Nat} {w : World} {F : Nat → Prop} {v : Value} {xs : List α} (f : α → β) (hf : ∀ x, enc' (f x) = enc x) (h : SlAt enc k w F v xs) : SlAt enc' k w F v (xs.map f) := by
  obtain ⟨a, c, e, h1, h2, h3⟩ := h
  refine ⟨a, c, by simpa using e, by simpa using h1, h2, fun i y hi => ?_⟩
  rw [List.getElem?_map] at hi
  cases hx : xs[i]? with
  | none => rw [hx] at hi; cases hi
  | some x =>
    rw [hx] at hi; simp at hi; subst hi
    obtain ⟨R, o, e1, hR, hc⟩ := h3 i x hx
    exact ⟨R, o, e1, hR, fun j u hj => hc j u (by rw [← hf]; exact hj)⟩
/-- An index, and things that stay. -/
def IdxRel (L : List Asn) (n : Nat) (w : World) (i : Value) (wr : World) : Prop := ∃ j : Nat, j ≤ n ∧ i = .int .i64 j ∧ St (fun _ => False) w wr L
set_option maxRecDepth 100000 in
set_option maxHeartbeats 16000000 in
theorem modelKeeps_calls (vs hs : List Value) (c : Cfg) (w : World) (F F2 : Nat → Prop) (h : (CfgA true vs hs c).at_ w F) (hw : Wide c) (ht : Tab.at_ w F2) : Calls Tryd.prog 4 #[.agg vs.toArray] w fun r w' => r = .returned (.bool true) ∧ Below w.heap.size w w' := by
  have S : St (fun _ => False) w w [CfgA true vs hs c, Tab] := ((St.init _ w).share rfl rfl ht).share rfl rfl h
  clear h ht
  obtain ⟨aP, cP, aL, cL, aS, cS, rfl, hlen, SC⟩ := S.cfg 0 rfl
  have HF : Hid (∀ w F, (CfgA true [.slice aP c.programs.length cP, .slice aL c.lps.length cL, .slice aS c.starts.length cS, .int .i64 c.fin, .int .i64 c.fuel, .int .i64 c.fan] hs c).at_ w F →
      Calls Tryd.prog 8 #[.agg #[.slice aP c.programs.length cP, .slice aL c.lps.length cL, .slice aS c.starts.length cS, .int .i64 c.fin, .int .i64 c.fuel, .int .i64 c.fan]] w fun r w' => r = .returned (.bool (fewB c)) ∧ Below w.heap.size w w') :=
    fun w F h => few_calls _ hs c w F h hw
  cases hf : fewB c
  · rw [hf] at HF
    clear hf
    go_enter Tryd.func4, Tryd.ntmps4
    go_wp2_with first
      | go_skip
      | ((with_reducible refine wpList_skip ?hw ?_); (case hw => with_unfolding_all rfl); simp only [Act.put, List.setIfInBounds_toArray, List.set_cons_succ, List.set_cons_zero])
      | ((with_reducible apply wps_boxa (E := 26) S); (case hx => rfl); clear S; intro bx wz S)
      | (go_at_call 8; refine Calls.mono (HF.out _ _ (S.get (i := 1) rfl).choose_spec) ?_; rintro e wz ⟨rfl, hE⟩; replace S := S.ext (Keep.of_below hE); clear hE)
      | (go_at_call 9; refine Calls.mono (awake_calls _ _ (S.get (i := 2) rfl).choose_spec) ?_; rintro e wz ⟨rfl, hE⟩; replace S := S.ext (Keep.of_below hE); clear hE)
      | ((with_reducible refine tot_done ?ht ?_); (case ht => kernel_rfl))
      | ((with_reducible apply wps_text S); (case hm => kernel_rfl); (case hB => decide +kernel); clear S; intro wz S)
      | ((with_reducible apply wps_boxa S); (case hx => rfl); clear S; intro bz wz S)
      | ((with_reducible apply wps_box1 (v := .int _ _) S); (case hx => rfl); (case h1 => rfl); clear S; intro bz wz S)
      | ((with_reducible apply wps_box1 (v := .bool _) S); (case hx => rfl); (case h1 => rfl); clear S; intro bz wz S)
      | ((with_reducible apply wps_box1 (v := .slice _ _ _) S); (case hx => rfl); (case h1 => rfl); clear S; intro bz wz S)
      | ((with_reducible apply wps_box1 (v := .pointer _) S); (case hx => rfl); (case h1 => rfl); clear S; intro bz wz S)
      | ((with_reducible apply wps_box1 (v := .map _) S); (case hx => rfl); (case h1 => rfl); clear S; intro bz wz S)
      | ((with_reducible apply wps_box1 (v := .string _) S); (case hx => rfl); (case h1 => rfl); clear S; intro bz wz S)
      | ((with_reducible apply wps_box1 (v := .func _ _ _) S); (case hx => rfl); (case h1 => rfl); clear S; intro bz wz S)
      | ((with_reducible apply wps_alloca (E := 26) S); (case hz => exact Tryd.zeroValue26); clear S; intro bz wz S)
      | ((with_reducible apply wps_alloca (E := 46) S); (case hz => exact Tryd.zeroValue46); clear S; intro bz wz S)
      | ((with_reducible apply wps_load S 0); (case hx => rfl); (case hi => rfl); (case hT => decide +kernel); (case hu => rfl))
      | ((with_reducible apply wps_loada (T := 26) (k := 6) S 0); (case hx => rfl); (case hi => rfl); (case hT => decide +kernel); (case hk => exact Nat.le_of_ble_eq_true rfl))
      | ((with_reducible apply wps_loada (T := 46) (k := 4) S 0); (case hx => rfl); (case hi => rfl); (case hT => decide +kernel); (case hk => exact Nat.le_of_ble_eq_true rfl))
    go_ret
    exact ⟨by simp, S.below⟩
  rw [hf] at HF
  have HM := Lib.hid (few_midK hf)
  have HM2 := Lib.hid (few_midK2 hf)
  have hp1 : c.programs.length ≤ 40 := (few_iff.1 hf).2.1
  have hp2 : c.lps.length ≤ 40 := (few_iff.1 hf).2.2.1
  have hp3 : c.starts.length ≤ 300 := (few_iff.1 hf).2.2.2
  clear hf hw S
  have S := ((SC.pick [4, 0, 1, 2, 3, 5] rfl).owsNil 52 Instr.cells 5).nil 44 hcell 1
  simp only [pick, nth] at S
  clear SC
  go_enter Tryd.func4, Tryd.ntmps4
  go_wp2_with first
    | go_skip
    | ((with_reducible refine wpList_skip ?hw ?_); (case hw => with_unfolding_all rfl); simp only [Act.put, List.setIfInBounds_toArray, List.set_cons_succ, List.set_cons_zero])
    | ((with_reducible apply wps_boxa (E := 26) S); (case hx => rfl); clear S; intro bx wz S)
    | ((with_reducible apply wps_alloca (E := 26) S); (case hz => exact Tryd.zeroValue26); clear S; intro bm wz S)
    | (go_at_call 8; refine Calls.mono (HF.out _ _ (S.get (i := 3) rfl).choose_spec) ?_; rintro e wz ⟨rfl, hE⟩; replace S := S.ext (Keep.of_below hE); clear hE)
    | ((with_reducible apply wps_storea (T := 26) S 0 (vs := [.slice aP c.programs.length cP, .slice aL c.lps.length cL, .slice aS c.starts.length cS, .int .i64 c.fin, .int .i64 c.fuel, .int .i64 c.fan]) (m := 6)); (case hx => rfl); (case hy => rfl); (case hi => rfl); (case hT => decide +kernel); (case hm => rfl); (case h1 => rfl); (case hn => exact Nat.le_of_ble_eq_true rfl); clear S; intro wz S; simp only [List.set_cons_zero, List.set_cons_succ, setAll, List.setIfInBounds_toArray] at S)
    | ((with_reducible apply wps_store (u := (.slice none 0 0)) S 0); (case hx => rfl); (case hy => rfl); (case hi => rfl); (case hT => decide +kernel); (case h1 => rfl); (case hn => exact Nat.le_of_ble_eq_true rfl); clear S; intro wz S; simp only [List.set_cons_zero, List.setIfInBounds_toArray] at S)
    | ((with_reducible refine tot_done ?ht ?_); (case ht => kernel_rfl))
    | ((with_reducible apply wps_text S); (case hm => kernel_rfl); (case hB => decide +kernel); clear S; intro wz S)
    | ((with_reducible apply wps_boxa S); (case hx => rfl); clear S; intro bz wz S)
    | ((with_reducible apply wps_box1 (v := .int _ _) S); (case hx => rfl); (case h1 => rfl); clear S; intro bz wz S)
    | ((with_reducible apply wps_box1 (v := .bool _) S); (case hx => rfl); (case h1 => rfl); clear S; intro bz wz S)
    | ((with_reducible apply wps_box1 (v := .slice _ _ _) S); (case hx => rfl); (case h1 => rfl); clear S; intro bz wz S)
    | ((with_reducible apply wps_box1 (v := .pointer _) S); (case hx => rfl); (case h1 => rfl); clear S; intro bz wz S)
    | ((with_reducible apply wps_box1 (v := .map _) S); (case hx => rfl); (case h1 => rfl); clear S; intro bz wz S)
    | ((with_reducible apply wps_box1 (v := .string _) S); (case hx => rfl); (case h1 => rfl); clear S; intro bz wz S)
    | ((with_reducible apply wps_box1 (v := .func _ _ _) S); (case hx => rfl); (case h1 => rfl); clear S; intro bz wz S)
    | ((with_reducible apply wps_alloca (E := 26) S); (case hz => exact Tryd.zeroValue26); clear S; intro bz wz S)
    | ((with_reducible apply wps_alloca (E := 46) S); (case hz => exact Tryd.zeroValue46); clear S; intro bz wz S)
    | ((with_reducible apply wps_load S 0); (case hx => rfl); (case hi => rfl); (case hT => decide +kernel); (case hu => rfl))
    | ((with_reducible apply wps_loada (T := 26) (k := 6) S 0); (case hx => rfl); (case hi => rfl); (case hT => decide +kernel); (case hk => exact Nat.le_of_ble_eq_true rfl))
    | ((with_reducible apply wps_loada (T := 46) (k := 4) S 0); (case hx => rfl); (case hi => rfl); (case hT => decide +kernel); (case hk => exact Nat.le_of_ble_eq_true rfl))
    | ((with_reducible apply wps_load S 1); (case hx => rfl); (case hi => rfl); (case hT => decide +kernel); (case hu => rfl))
    | ((with_reducible apply wps_loada (T := 26) (k := 6) S 1); (case hx => rfl); (case hi => rfl); (case hT => decide +kernel); (case hk => exact Nat.le_of_ble_eq_true rfl))
    | ((with_reducible apply wps_loada (T := 46) (k := 4) S 1); (case hx => rfl); (case hi => rfl); (case hT => decide +kernel); (case hk => exact Nat.le_of_ble_eq_true rfl))
  clear HF
  replace S := S.pick [1, 5, 6, 0, 2, 3, 7, 8, 9] rfl
  simp only [pick, nth] at S
  go_loopw [4] (fun i wr => KRel1 bx bm aP cP (.slice aL c.lps.length cL) (.slice aS c.starts.length cS) hs c w i wr) (fun i _ => c.programs.length - (intOf i).toNat)
  case atStart => exact ⟨0, [], none, 0, Nat.zero_le _, rfl, rfl, fun g h => by simp at h, S⟩
  case round =>
    clear S
    obtain ⟨j, gs, adg, cg, hj, rfl, hgs, Hg, S⟩ := hrel
    by_cases hlt : j < c.programs.length
    · obtain ⟨p, hp⟩ : ∃ p, c.programs[j]? = some p := ⟨_, List.getElem?_eq_getElem hlt⟩
      obtain ⟨v, hv⟩ : ∃ v, hs[j]? = some v := ⟨_, List.getElem?_eq_getElem (by omega)⟩
      obtain ⟨R, o, rfl⟩ : ∃ R o, aP = some ⟨R, o, none⟩ := (S.sl 2 rfl).elim fun F h => h.head (by omega)
      have hlt2 : (j : Int) < c.programs.length := by omega
      have hpn := HM2.out p (List.mem_of_getElem? hp)
      obtain ⟨av, cv, rfl, _⟩ := (S.sls 1 rfl).elim fun F h => (h.2 j v p hv hp).form
      have hgl : gs.length ≤ 65536 := by omega
      have Hp := Lib.hid hp
      have Hv := Lib.hid hv
      have Hgs := Lib.hid hgs
      clear hp hv hgs
      replace S := (((S.slsEl 1 rfl Hv.out Hp.out).nil 52 Instr.cells 5).pick [2, 3, 4, 1, 5, 6, 7, 0, 8, 9, 10] rfl)
      simp only [pick, nth] at S
      go_wp2_with first
        | go_skip
        | ((with_reducible refine wpList_skip ?hw ?_); (case hw => with_unfolding_all rfl); simp only [Act.put, List.setIfInBounds_toArray, List.set_cons_succ, List.set_cons_zero])
        | ((with_reducible refine tot_done ?ht ?_); (case ht => kernel_rfl))
        | ((with_reducible apply wps_boxa S); (case hx => rfl); clear S; intro bz wz S)
        | ((with_reducible apply wps_box1 (v := .int _ _) S); (case hx => rfl); (case h1 => rfl); clear S; intro bz wz S)
        | ((with_reducible apply wps_box1 (v := .bool _) S); (case hx => rfl); (case h1 => rfl); clear S; intro bz wz S)
        | ((with_reducible apply wps_box1 (v := .slice _ _ _) S); (case hx => rfl); (case h1 => rfl); clear S; intro bz wz S)
        | ((with_reducible apply wps_box1 (v := .pointer _) S); (case hx => rfl); (case h1 => rfl); clear S; intro bz wz S)
        | ((with_reducible apply wps_box1 (v := .map _) S); (case hx => rfl); (case h1 => rfl); clear S; intro bz wz S)
        | ((with_reducible apply wps_box1 (v := .string _) S); (case hx => rfl); (case h1 => rfl); clear S; intro bz wz S)
        | ((with_reducible apply wps_box1 (v := .func _ _ _) S); (case hx => rfl); (case h1 => rfl); clear S; intro bz wz S)
        | ((with_reducible apply wps_alloca (E := 26) S); (case hz => exact Tryd.zeroValue26); clear S; intro bz wz S)
        | ((with_reducible apply wps_alloca (E := 46) S); (case hz => exact Tryd.zeroValue46); clear S; intro bz wz S)
        | ((with_reducible apply wps_load S 0); (case hx => rfl); (case hi => rfl); (case hT => decide +kernel); (case hu => rfl))
        | ((with_reducible apply wps_loada (T := 26) (k := 6) S 0); (case hx => rfl); (case hi => rfl); (case hT => decide +kernel); (case hk => exact Nat.le_of_ble_eq_true rfl))
        | ((with_reducible apply wps_loada (T := 46) (k := 4) S 0); (case hx => rfl); (case hi => rfl); (case hT => decide +kernel); (case hk => exact Nat.le_of_ble_eq_true rfl))
        | ((with_reducible apply wps_load S 1); (case hx => rfl); (case hi => rfl); (case hT => decide +kernel); (case hu => rfl))
        | ((with_reducible apply wps_loada (T := 26) (k := 6) S 1); (case hx => rfl); (case hi => rfl); (case hT => decide +kernel); (case hk => exact Nat.le_of_ble_eq_true rfl))
        | ((with_reducible apply wps_loada (T := 46) (k := 4) S 1); (case hx => rfl); (case hi => rfl); (case hT => decide +kernel); (case hk => exact Nat.le_of_ble_eq_true rfl))
        | ((with_reducible apply wps_load S 2); (case hx => rfl); (case hi => rfl); (case hT => decide +kernel); (case hu => rfl))
        | ((with_reducible apply wps_loada (T := 26) (k := 6) S 2); (case hx => rfl); (case hi => rfl); (case hT => decide +kernel); (case hk => exact Nat.le_of_ble_eq_true rfl))
        | ((with_reducible apply wps_loada (T := 46) (k := 4) S 2); (case hx => rfl); (case hi => rfl); (case hT => decide +kernel); (case hk => exact Nat.le_of_ble_eq_true rfl))
        | ((with_reducible apply wps_load S 3); (case hx => rfl); (case hi => rfl); (case hT => decide +kernel); (case hu => rfl))
        | ((with_reducible apply wps_loada (T := 26) (k := 6) S 3); (case hx => rfl); (case hi => rfl); (case hT => decide +kernel); (case hk => exact Nat.le_of_ble_eq_true rfl))
        | ((with_reducible apply wps_loada (T := 46) (k := 4) S 3); (case hx => rfl); (case hi => rfl); (case hT => decide +kernel); (case hk => exact Nat.le_of_ble_eq_true rfl))
      (refine wp_region_wt (soft := [0, 2, 3, 4, 5, 6, 7]) (L := [_, _, _, _]) (T := [_, _, _, _, _, _, _]) S ?hm ?hB ?_); (case hm => kernel_rfl); (case hB => decide +kernel); clear S
      iterate 7
        (with_reducible apply softs_cons)
        (case hw =>
          (with_reducible apply soft_of); (case hi => rfl)
          intro T wz S
          simp only [List.cons_append, List.nil_append] at S
          go_wp2_with first
            | go_skip
            | ((with_reducible apply wps_load_el S 2 (hj := Hv.out) (q := 0) (u := (.slice av p.length cv))); (case hx => rfl); (case hi => rfl); (case hn => omega); (case hT => decide +kernel); (case hu => rfl))
            | ((with_reducible refine tot_done ?ht ?_); (case ht => kernel_rfl))
            | ((with_reducible apply wps_boxa S); (case hx => rfl); clear S; intro bz wz S)
            | ((with_reducible apply wps_box1 (v := .int _ _) S); (case hx => rfl); (case h1 => rfl); clear S; intro bz wz S)
            | ((with_reducible apply wps_box1 (v := .bool _) S); (case hx => rfl); (case h1 => rfl); clear S; intro bz wz S)
            | ((with_reducible apply wps_box1 (v := .slice _ _ _) S); (case hx => rfl); (case h1 => rfl); clear S; intro bz wz S)
            | ((with_reducible apply wps_box1 (v := .pointer _) S); (case hx => rfl); (case h1 => rfl); clear S; intro bz wz S)
            | ((with_reducible apply wps_box1 (v := .map _) S); (case hx => rfl); (case h1 => rfl); clear S; intro bz wz S)
            | ((with_reducible apply wps_box1 (v := .string _) S); (case hx => rfl); (case h1 => rfl); clear S; intro bz wz S)
            | ((with_reducible apply wps_box1 (v := .func _ _ _) S); (case hx => rfl); (case h1 => rfl); clear S; intro bz wz S)
            | ((with_reducible apply wps_alloca (E := 26) S); (case hz => exact Tryd.zeroValue26); clear S; intro bz wz S)
            | ((with_reducible apply wps_alloca (E := 46) S); (case hz => exact Tryd.zeroValue46); clear S; intro bz wz S)
            | ((with_reducible apply wps_load S 0); (case hx => rfl); (case hi => rfl); (case hT => decide +kernel); (case hu => rfl))
            | ((with_reducible apply wps_loada (T := 26) (k := 6) S 0); (case hx => rfl); (case hi => rfl); (case hT => decide +kernel); (case hk => exact Nat.le_of_ble_eq_true rfl))
            | ((with_reducible apply wps_loada (T := 46) (k := 4) S 0); (case hx => rfl); (case hi => rfl); (case hT => decide +kernel); (case hk => exact Nat.le_of_ble_eq_true rfl))
            | ((with_reducible apply wps_load S 1); (case hx => rfl); (case hi => rfl); (case hT => decide +kernel); (case hu => rfl))
            | ((with_reducible apply wps_loada (T := 26) (k := 6) S 1); (case hx => rfl); (case hi => rfl); (case hT => decide +kernel); (case hk => exact Nat.le_of_ble_eq_true rfl))
            | ((with_reducible apply wps_loada (T := 46) (k := 4) S 1); (case hx => rfl); (case hi => rfl); (case hT => decide +kernel); (case hk => exact Nat.le_of_ble_eq_true rfl))
            | ((with_reducible apply wps_load S 2); (case hx => rfl); (case hi => rfl); (case hT => decide +kernel); (case hu => rfl))
            | ((with_reducible apply wps_loada (T := 26) (k := 6) S 2); (case hx => rfl); (case hi => rfl); (case hT => decide +kernel); (case hk => exact Nat.le_of_ble_eq_true rfl))
            | ((with_reducible apply wps_loada (T := 46) (k := 4) S 2); (case hx => rfl); (case hi => rfl); (case hT => decide +kernel); (case hk => exact Nat.le_of_ble_eq_true rfl))
          exact ⟨rfl, S⟩)
        (case hs => exact ⟨_, rfl, by kernel_rfl⟩)
      refine softs_nil ?_
      repeat'
        (first
          | ((with_reducible apply W_hard1 (i := 1)); (case hn => rfl); (case hr => decide +kernel))
          | ((with_reducible apply W_hard1 (i := 8)); (case hn => rfl); (case hr => decide +kernel))
          | ((with_reducible apply W_hard1 (i := 9)); (case hn => rfl); (case hr => decide +kernel))
          | ((with_reducible apply W_hard1 (i := 10)); (case hn => rfl); (case hr => decide +kernel))
          | ((with_reducible apply W_hard1 (i := 11)); (case hn => rfl); (case hr => decide +kernel))
          | ((with_reducible apply W_hard1 (i := 12)); (case hn => rfl); (case hr => decide +kernel))
          | ((with_reducible apply W_hard2 (i := 1) (i' := 8)); (case hn => rfl); (case hr => decide +kernel))
          | ((with_reducible apply W_hard2 (i := 1) (i' := 9)); (case hn => rfl); (case hr => decide +kernel))
          | ((with_reducible apply W_hard2 (i := 1) (i' := 10)); (case hn => rfl); (case hr => decide +kernel))
          | ((with_reducible apply W_hard2 (i := 1) (i' := 11)); (case hn => rfl); (case hr => decide +kernel))
          | ((with_reducible apply W_hard2 (i := 1) (i' := 12)); (case hn => rfl); (case hr => decide +kernel))
          | ((with_reducible apply W_hard2 (i := 8) (i' := 9)); (case hn => rfl); (case hr => decide +kernel))
          | ((with_reducible apply W_hard2 (i := 8) (i' := 10)); (case hn => rfl); (case hr => decide +kernel))
          | ((with_reducible apply W_hard2 (i := 8) (i' := 11)); (case hn => rfl); (case hr => decide +kernel))
          | ((with_reducible apply W_hard2 (i := 8) (i' := 12)); (case hn => rfl); (case hr => decide +kernel))
          | ((with_reducible apply W_hard2 (i := 9) (i' := 10)); (case hn => rfl); (case hr => decide +kernel))
          | ((with_reducible apply W_hard2 (i := 9) (i' := 11)); (case hn => rfl); (case hr => decide +kernel))
          | ((with_reducible apply W_hard2 (i := 9) (i' := 12)); (case hn => rfl); (case hr => decide +kernel))
          | ((with_reducible apply W_hard2 (i := 10) (i' := 11)); (case hn => rfl); (case hr => decide +kernel))
          | ((with_reducible apply W_hard2 (i := 10) (i' := 12)); (case hn => rfl); (case hr => decide +kernel))
          | ((with_reducible apply W_hard2 (i := 11) (i' := 12)); (case hn => rfl); (case hr => decide +kernel)))
        all_goals
          intro wz S
          (with_reducible apply hard_of); (case hi => rfl)
          simp only [List.cons_append, List.nil_append] at S
          try simp only [pick, nth] at S
          go_wp2_with first
            | go_skip
            | ((with_reducible apply wps_appends elem_In incells inone (by decide) S 7 (j := 3)); (case hx => rfl); (case hy => rfl); (case hi => rfl); (case hj => rfl); (case hl => first | omega | (simp; omega)); clear S; intro azi nzi czi wz hnzi S; simp only [List.set_cons_succ, List.set_cons_zero] at S)
            | ((with_reducible apply wps_buildSlice (T := 22) (E := 44) (cs := #[.slice azi nzi czi]) S); (case hr => intro w; kernel_rfl); clear S; intro bz wz S)
            | ((with_reducible apply wps_append1 elem_Hd hcells hone (by decide) S 5 (j := 11) (e := (⟨azi,nzi,czi⟩:Hd))); (case hx => rfl); (case hy => rfl); (case hi => rfl); (case hj => rfl); (case he => rfl); (case hl => first | omega | (simp; omega)); clear S; intro az nz cz wz hnz S; simp only [List.set_cons_succ, List.set_cons_zero] at S)
            | ((with_reducible apply wps_store (u := (.slice az nz cz)) S 4); (case hx => rfl); (case hy => rfl); (case hi => rfl); (case hT => decide +kernel); (case h1 => rfl); (case hn => exact Nat.le_of_ble_eq_true rfl); clear S; intro wz S; simp only [List.set_cons_succ, List.set_cons_zero, List.setIfInBounds_toArray] at S)
            | ((with_reducible refine tot_done ?ht ?_); (case ht => kernel_rfl))
            | ((with_reducible apply wps_boxa S); (case hx => rfl); clear S; intro bz wz S)
            | ((with_reducible apply wps_box1 (v := .int _ _) S); (case hx => rfl); (case h1 => rfl); clear S; intro bz wz S)
            | ((with_reducible apply wps_box1 (v := .bool _) S); (case hx => rfl); (case h1 => rfl); clear S; intro bz wz S)
            | ((with_reducible apply wps_box1 (v := .slice _ _ _) S); (case hx => rfl); (case h1 => rfl); clear S; intro bz wz S)
            | ((with_reducible apply wps_box1 (v := .pointer _) S); (case hx => rfl); (case h1 => rfl); clear S; intro bz wz S)
            | ((with_reducible apply wps_box1 (v := .map _) S); (case hx => rfl); (case h1 => rfl); clear S; intro bz wz S)
            | ((with_reducible apply wps_box1 (v := .string _) S); (case hx => rfl); (case h1 => rfl); clear S; intro bz wz S)
            | ((with_reducible apply wps_box1 (v := .func _ _ _) S); (case hx => rfl); (case h1 => rfl); clear S; intro bz wz S)
            | ((with_reducible apply wps_alloca (E := 26) S); (case hz => exact Tryd.zeroValue26); clear S; intro bz wz S)
            | ((with_reducible apply wps_alloca (E := 46) S); (case hz => exact Tryd.zeroValue46); clear S; intro bz wz S)
            | ((with_reducible apply wps_load S 0); (case hx => rfl); (case hi => rfl); (case hT => decide +kernel); (case hu => rfl))
            | ((with_reducible apply wps_loada (T := 26) (k := 6) S 0); (case hx => rfl); (case hi => rfl); (case hT => decide +kernel); (case hk => exact Nat.le_of_ble_eq_true rfl))
            | ((with_reducible apply wps_loada (T := 46) (k := 4) S 0); (case hx => rfl); (case hi => rfl); (case hT => decide +kernel); (case hk => exact Nat.le_of_ble_eq_true rfl))
            | ((with_reducible apply wps_load S 1); (case hx => rfl); (case hi => rfl); (case hT => decide +kernel); (case hu => rfl))
            | ((with_reducible apply wps_loada (T := 26) (k := 6) S 1); (case hx => rfl); (case hi => rfl); (case hT => decide +kernel); (case hk => exact Nat.le_of_ble_eq_true rfl))
            | ((with_reducible apply wps_loada (T := 46) (k := 4) S 1); (case hx => rfl); (case hi => rfl); (case hT => decide +kernel); (case hk => exact Nat.le_of_ble_eq_true rfl))
            | ((with_reducible apply wps_load S 2); (case hx => rfl); (case hi => rfl); (case hT => decide +kernel); (case hu => rfl))
            | ((with_reducible apply wps_loada (T := 26) (k := 6) S 2); (case hx => rfl); (case hi => rfl); (case hT => decide +kernel); (case hk => exact Nat.le_of_ble_eq_true rfl))
            | ((with_reducible apply wps_loada (T := 46) (k := 4) S 2); (case hx => rfl); (case hi => rfl); (case hT => decide +kernel); (case hk => exact Nat.le_of_ble_eq_true rfl))
            | ((with_reducible apply wps_load S 3); (case hx => rfl); (case hi => rfl); (case hT => decide +kernel); (case hu => rfl))
            | ((with_reducible apply wps_loada (T := 26) (k := 6) S 3); (case hx => rfl); (case hi => rfl); (case hT => decide +kernel); (case hk => exact Nat.le_of_ble_eq_true rfl))
            | ((with_reducible apply wps_loada (T := 46) (k := 4) S 3); (case hx => rfl); (case hi => rfl); (case hT => decide +kernel); (case hk => exact Nat.le_of_ble_eq_true rfl))
            | ((with_reducible apply wps_load S 4); (case hx => rfl); (case hi => rfl); (case hT => decide +kernel); (case hu => rfl))
            | ((with_reducible apply wps_loada (T := 26) (k := 6) S 4); (case hx => rfl); (case hi => rfl); (case hT => decide +kernel); (case hk => exact Nat.le_of_ble_eq_true rfl))
            | ((with_reducible apply wps_loada (T := 46) (k := 4) S 4); (case hx => rfl); (case hi => rfl); (case hT => decide +kernel); (case hk => exact Nat.le_of_ble_eq_true rfl))
            | ((with_reducible apply wps_load S 5); (case hx => rfl); (case hi => rfl); (case hT => decide +kernel); (case hu => rfl))
            | ((with_reducible apply wps_loada (T := 26) (k := 6) S 5); (case hx => rfl); (case hi => rfl); (case hT => decide +kernel); (case hk => exact Nat.le_of_ble_eq_true rfl))
            | ((with_reducible apply wps_loada (T := 46) (k := 4) S 5); (case hx => rfl); (case hi => rfl); (case hT => decide +kernel); (case hk => exact Nat.le_of_ble_eq_true rfl))
          first
            | refine ⟨_, S.pick [1, 2, 3, 4, 5, 6, 7, 8, 9, 10, 11, 12, 0] rfl, ?_⟩
            | refine ⟨_, S.pick [1, 2, 3, 4, 5, 6, 7, 8, 9, 10, 11, 0] rfl, ?_⟩
            | refine ⟨_, S.pick [1, 2, 3, 4, 5, 6, 7, 8, 9, 10, 0] rfl, ?_⟩
            | refine ⟨_, S.pick [1, 2, 3, 4, 5, 6, 7, 8, 9, 0] rfl, ?_⟩
            | refine ⟨_, S.pick [1, 2, 3, 4, 5, 6, 7, 8, 0] rfl, ?_⟩
            | refine ⟨_, S.pick [1, 2, 3, 4, 5, 6, 7, 0] rfl, ?_⟩
            | refine ⟨_, S.pick [1, 2, 3, 4, 5, 6, 0] rfl, ?_⟩
            | refine ⟨_, S.pick [1, 2, 3, 4, 5, 0] rfl, ?_⟩
            | refine ⟨_, S.pick [1, 2, 3, 4, 0] rfl, ?_⟩
            | refine ⟨_, S, ?_⟩
      all_goals
        (with_reducible apply W_done); (case hn => rfl); (case hr => decide +kernel)
        clear S
        intro wz S
        simp only [List.cons_append, List.nil_append] at S
        try simp only [pick, nth] at S
        obtain rfl : nzi = p.length := by simpa using hnzi.out
        obtain rfl : nz = j + 1 := by rw [hnz.out, Hgs.out]
        replace S := ((S.pick [7, 6, 0, 1, 2, 4, 5, 8, 9, 10] rfl).owsSnoc.pick [1, 2, 3, 4, 5, 0, 6, 7, 8] rfl)
        simp only [pick, nth] at S
        go_wp2_with first
          | go_skip
          | ((with_reducible refine wpList_skip ?hw ?_); (case hw => with_unfolding_all rfl); simp only [Act.put, List.setIfInBounds_toArray, List.set_cons_succ, List.set_cons_zero])
          | ((with_reducible refine tot_done ?ht ?_); (case ht => kernel_rfl))
          | ((with_reducible apply wps_text S); (case hm => kernel_rfl); (case hB => decide +kernel); clear S; intro wz S)
          | ((with_reducible apply wps_boxa S); (case hx => rfl); clear S; intro bz wz S)
          | ((with_reducible apply wps_box1 (v := .int _ _) S); (case hx => rfl); (case h1 => rfl); clear S; intro bz wz S)
          | ((with_reducible apply wps_box1 (v := .bool _) S); (case hx => rfl); (case h1 => rfl); clear S; intro bz wz S)
          | ((with_reducible apply wps_box1 (v := .slice _ _ _) S); (case hx => rfl); (case h1 => rfl); clear S; intro bz wz S)
          | ((with_reducible apply wps_box1 (v := .pointer _) S); (case hx => rfl); (case h1 => rfl); clear S; intro bz wz S)
          | ((with_reducible apply wps_box1 (v := .map _) S); (case hx => rfl); (case h1 => rfl); clear S; intro bz wz S)
          | ((with_reducible apply wps_box1 (v := .string _) S); (case hx => rfl); (case h1 => rfl); clear S; intro bz wz S)
          | ((with_reducible apply wps_box1 (v := .func _ _ _) S); (case hx => rfl); (case h1 => rfl); clear S; intro bz wz S)
          | ((with_reducible apply wps_alloca (E := 26) S); (case hz => exact Tryd.zeroValue26); clear S; intro bz wz S)
          | ((with_reducible apply wps_alloca (E := 46) S); (case hz => exact Tryd.zeroValue46); clear S; intro bz wz S)
          | ((with_reducible apply wps_load S 0); (case hx => rfl); (case hi => rfl); (case hT => decide +kernel); (case hu => rfl))
          | ((with_reducible apply wps_loada (T := 26) (k := 6) S 0); (case hx => rfl); (case hi => rfl); (case hT => decide +kernel); (case hk => exact Nat.le_of_ble_eq_true rfl))
          | ((with_reducible apply wps_loada (T := 46) (k := 4) S 0); (case hx => rfl); (case hi => rfl); (case hT => decide +kernel); (case hk => exact Nat.le_of_ble_eq_true rfl))
        go_roundw
        case rel =>
          refine ⟨j + 1, gs ++ [⟨azi, p.length, czi⟩], az, cz, by omega, by go_num, by simp [Hgs.out], fun g hg => ?_, ?_⟩
          · rcases List.mem_append.1 hg with hg | hg
            · exact Hg.out g hg
            · obtain rfl : g = _ := by simpa using hg
              exact hpn
          · have ht : c.programs.take (j + 1) = c.programs.take j ++ [p] := by rw [List.take_add_one, Hp.out]; rfl
            have hmap : (gs ++ [(⟨azi, p.length, czi⟩ : Hd)]).map Hd.val = gs.map Hd.val ++ [.slice azi p.length czi] := by simp [Hd.val]
            rw [ht, hmap]
            exact S
        case measure => first | (simp [intOf]; done) | (simp [intOf]; omega)
    · obtain rfl : j = c.programs.length := by omega
      rw [List.take_length] at S
      replace S := (((S.pick [3, 0, 4, 5, 6, 7, 8] rfl).nil 28 Start.cells 4).nil 54 Place.cells 5)
      simp only [pick, nth] at S
      go_wp2_with first
        | go_skip
        | ((with_reducible refine wpList_skip ?hw ?_); (case hw => with_unfolding_all rfl); simp only [Act.put, List.setIfInBounds_toArray, List.set_cons_succ, List.set_cons_zero])
        | ((with_reducible apply wps_appends elem_Pl plcells plone (by decide) S 0 (j := 6)); (case hx => rfl); (case hy => rfl); (case hi => rfl); (case hj => rfl); (case hl => first | omega | (simp; omega)); clear S; intro azl nzl czl wz hnzl S; simp only [List.set_cons_zero] at S)
        | ((with_reducible apply wps_appends elem_Sta stcells stone (by decide) S 1 (j := 7)); (case hx => rfl); (case hy => rfl); (case hi => rfl); (case hj => rfl); (case hl => first | omega | (simp; omega)); clear S; intro azs nzs czs wz hnzs S; simp only [List.set_cons_succ, List.set_cons_zero] at S)
        | ((with_reducible apply wps_store (u := (.slice azl nzl czl)) S 2); (case hx => rfl); (case hy => rfl); (case hi => rfl); (case hT => decide +kernel); (case h1 => rfl); (case hn => exact Nat.le_of_ble_eq_true rfl); clear S; intro wz S; simp only [List.set_cons_succ, List.set_cons_zero, List.setIfInBounds_toArray] at S)
        | ((with_reducible apply wps_store (u := (.slice azs nzs czs)) S 2); (case hx => rfl); (case hy => rfl); (case hi => rfl); (case hT => decide +kernel); (case h1 => rfl); (case hn => exact Nat.le_of_ble_eq_true rfl); clear S; intro wz S; simp only [List.set_cons_succ, List.set_cons_zero, List.setIfInBounds_toArray] at S)
        | ((with_reducible refine tot_done ?ht ?_); (case ht => kernel_rfl))
        | ((with_reducible apply wps_text S); (case hm => kernel_rfl); (case hB => decide +kernel); clear S; intro wz S)
        | ((with_reducible apply wps_boxa S); (case hx => rfl); clear S; intro bz wz S)
        | ((with_reducible apply wps_box1 (v := .int _ _) S); (case hx => rfl); (case h1 => rfl); clear S; intro bz wz S)
        | ((with_reducible apply wps_box1 (v := .bool _) S); (case hx => rfl); (case h1 => rfl); clear S; intro bz wz S)
        | ((with_reducible apply wps_box1 (v := .slice _ _ _) S); (case hx => rfl); (case h1 => rfl); clear S; intro bz wz S)
        | ((with_reducible apply wps_box1 (v := .pointer _) S); (case hx => rfl); (case h1 => rfl); clear S; intro bz wz S)
        | ((with_reducible apply wps_box1 (v := .map _) S); (case hx => rfl); (case h1 => rfl); clear S; intro bz wz S)
        | ((with_reducible apply wps_box1 (v := .string _) S); (case hx => rfl); (case h1 => rfl); clear S; intro bz wz S)
        | ((with_reducible apply wps_box1 (v := .func _ _ _) S); (case hx => rfl); (case h1 => rfl); clear S; intro bz wz S)
        | ((with_reducible apply wps_alloca (E := 26) S); (case hz => exact Tryd.zeroValue26); clear S; intro bz wz S)
        | ((with_reducible apply wps_alloca (E := 46) S); (case hz => exact Tryd.zeroValue46); clear S; intro bz wz S)
        | ((with_reducible apply wps_load S 0); (case hx => rfl); (case hi => rfl); (case hT => decide +kernel); (case hu => rfl))
        | ((with_reducible apply wps_loada (T := 26) (k := 6) S 0); (case hx => rfl); (case hi => rfl); (case hT => decide +kernel); (case hk => exact Nat.le_of_ble_eq_true rfl))
        | ((with_reducible apply wps_loada (T := 46) (k := 4) S 0); (case hx => rfl); (case hi => rfl); (case hT => decide +kernel); (case hk => exact Nat.le_of_ble_eq_true rfl))
        | ((with_reducible apply wps_load S 1); (case hx => rfl); (case hi => rfl); (case hT => decide +kernel); (case hu => rfl))
        | ((with_reducible apply wps_loada (T := 26) (k := 6) S 1); (case hx => rfl); (case hi => rfl); (case hT => decide +kernel); (case hk => exact Nat.le_of_ble_eq_true rfl))
        | ((with_reducible apply wps_loada (T := 46) (k := 4) S 1); (case hx => rfl); (case hi => rfl); (case hT => decide +kernel); (case hk => exact Nat.le_of_ble_eq_true rfl))
        | ((with_reducible apply wps_load S 2); (case hx => rfl); (case hi => rfl); (case hT => decide +kernel); (case hu => rfl))
        | ((with_reducible apply wps_loada (T := 26) (k := 6) S 2); (case hx => rfl); (case hi => rfl); (case hT => decide +kernel); (case hk => exact Nat.le_of_ble_eq_true rfl))
        | ((with_reducible apply wps_loada (T := 46) (k := 4) S 2); (case hx => rfl); (case hi => rfl); (case hT => decide +kernel); (case hk => exact Nat.le_of_ble_eq_true rfl))
        | ((with_reducible apply wps_load S 3); (case hx => rfl); (case hi => rfl); (case hT => decide +kernel); (case hu => rfl))
        | ((with_reducible apply wps_loada (T := 26) (k := 6) S 3); (case hx => rfl); (case hi => rfl); (case hT => decide +kernel); (case hk => exact Nat.le_of_ble_eq_true rfl))
        | ((with_reducible apply wps_loada (T := 46) (k := 4) S 3); (case hx => rfl); (case hi => rfl); (case hT => decide +kernel); (case hk => exact Nat.le_of_ble_eq_true rfl))
      obtain rfl : nzl = c.lps.length := by simpa using hnzl.out
      obtain rfl : nzs = c.starts.length := by simpa using hnzs.out
      simp only [List.nil_append] at S
      have hcfg : ∃ F, (CfgA true [.slice adg c.programs.length cg, .slice azl c.lps.length czl, .slice azs c.starts.length czs, .int .i64 c.fin, .int .i64 c.fuel, .int .i64 c.fan] (gs.map Hd.val) c).at_ wz F := by
        have h1 := own_sl (sh := true) hcells (S.get (i := 4) rfl).choose_spec
        have h2 : (Sl true vcell 1 (.slice adg c.programs.length cg) (gs.map Hd.val)).at_ wz _ := ⟨slat_map Hd.val (fun _ => rfl) h1.1, h1.2⟩
        exact ⟨_, cfg_any (c := c) h2 (own_sl (sh := true) plcells (S.get (i := 0) rfl).choose_spec) (own_sl (sh := true) stcells (S.get (i := 1) rfl).choose_spec) (ows_sls incells (S.get (i := 5) rfl).choose_spec)⟩
      refine Calls.mono (new_calls _ (gs.map Hd.val) c _ _ _ hcfg.choose_spec (S.get (i := 8) rfl).choose_spec HM.out HM2.out) ?_
      clear hcfg
      rintro e wz (⟨hne, rfl, hE⟩ | ⟨hok, R, vs2, hs2, rfl, T⟩)
      · replace S := S.ext (Keep.of_below hE)
        have h1 : (cfgE c != 0) = true := by simpa using hne
        generalize cfgE c = e at *
        have Hne := Lib.hid hne
        clear hne
        go_wp2_with first
          | go_skip
          | ((with_reducible refine wpList_skip ?hw ?_); (case hw => with_unfolding_all rfl); simp only [Act.put, List.setIfInBounds_toArray, List.set_cons_succ, List.set_cons_zero])
          | (go_at_call 9; refine Calls.mono (awake_calls _ _ (S.get (i := 8) rfl).choose_spec) ?_; rintro e wz ⟨rfl, hE⟩; replace S := S.ext (Keep.of_below hE); clear hE)
          | ((with_reducible refine tot_done ?ht ?_); (case ht => kernel_rfl))
          | ((with_reducible apply wps_text S); (case hm => kernel_rfl); (case hB => decide +kernel); clear S; intro wz S)
          | ((with_reducible apply wps_boxa S); (case hx => rfl); clear S; intro bz wz S)
          | ((with_reducible apply wps_box1 (v := .int _ _) S); (case hx => rfl); (case h1 => rfl); clear S; intro bz wz S)
          | ((with_reducible apply wps_box1 (v := .bool _) S); (case hx => rfl); (case h1 => rfl); clear S; intro bz wz S)
          | ((with_reducible apply wps_box1 (v := .slice _ _ _) S); (case hx => rfl); (case h1 => rfl); clear S; intro bz wz S)
          | ((with_reducible apply wps_box1 (v := .pointer _) S); (case hx => rfl); (case h1 => rfl); clear S; intro bz wz S)
          | ((with_reducible apply wps_box1 (v := .map _) S); (case hx => rfl); (case h1 => rfl); clear S; intro bz wz S)
          | ((with_reducible apply wps_box1 (v := .string _) S); (case hx => rfl); (case h1 => rfl); clear S; intro bz wz S)
          | ((with_reducible apply wps_box1 (v := .func _ _ _) S); (case hx => rfl); (case h1 => rfl); clear S; intro bz wz S)
          | ((with_reducible apply wps_alloca (E := 26) S); (case hz => exact Tryd.zeroValue26); clear S; intro bz wz S)
          | ((with_reducible apply wps_alloca (E := 46) S); (case hz => exact Tryd.zeroValue46); clear S; intro bz wz S)
          | ((with_reducible apply wps_load S 0); (case hx => rfl); (case hi => rfl); (case hT => decide +kernel); (case hu => rfl))
          | ((with_reducible apply wps_loada (T := 26) (k := 6) S 0); (case hx => rfl); (case hi => rfl); (case hT => decide +kernel); (case hk => exact Nat.le_of_ble_eq_true rfl))
          | ((with_reducible apply wps_loada (T := 46) (k := 4) S 0); (case hx => rfl); (case hi => rfl); (case hT => decide +kernel); (case hk => exact Nat.le_of_ble_eq_true rfl))
        go_ret
        exact ⟨by simp, S.below⟩
      replace S := (S.join T rfl).modShare 0 rfl
      simp only [List.cons_append, List.nil_append, List.set_cons_zero] at S
      clear T
      have HO := Lib.hid (cfg_ok.1 hok)
      clear hok
      have hsz : 1 ≤ c.lps.length ∧ 1 ≤ c.programs.length := ⟨HO.out.sizes.1.1, HO.out.sizes.2.1.1⟩
      replace S := (((S.room1 1 plcells rfl).room1 2 stcells rfl).rooms 6 incells rfl).pick [3, 5, 6, 1, 2, 0, 9] rfl
      simp only [List.set_cons_succ, List.set_cons_zero, pick, nth] at S
      obtain ⟨RG, rfl⟩ : ∃ RG, adg = some ⟨RG, 0, none⟩ := by
        obtain ⟨F0, hF0⟩ := S.get (i := 1) rfl
        obtain ⟨R0, cap, cur, e, _⟩ := Owns.some hF0.1 (by omega)
        simp only [Value.slice.injEq] at e; exact ⟨R0, e.1⟩
      obtain ⟨l0, hl0⟩ : ∃ l0, c.lps[0]? = some l0 := ⟨_, List.getElem?_eq_getElem (by omega)⟩
      have hlp := HO.out.lps l0 (List.mem_of_getElem? hl0)
      obtain ⟨k0, hk0⟩ : ∃ k0 : Nat, l0.program = k0 := ⟨l0.program.toNat, by omega⟩
      obtain ⟨p0, hp0⟩ : ∃ p0, c.programs[k0]? = some p0 := ⟨_, List.getElem?_eq_getElem (by omega)⟩
      have hpn0 := HM2.out p0 (List.mem_of_getElem? hp0)
      have hel : (evsOf c).length = c.starts.length := evsOf_len c
      have HEv : Hid (∀ w F, (ModA true 77 R vs2 hs2 c).at_ w F → Calls Tryd.prog 12 #[.pointer (some ⟨R, 0, none⟩)] w fun e w' => ∃ ad cE, e = .returned (.slice ad c.starts.length cE) ∧ St (fun _ => False) w w' [Own 42 Event.cells 7 (.slice ad c.starts.length cE) (evsOf c)]) := fun w F h => by
        have := events_calls R vs2 hs2 c w F h (by omega)
        unfold SortPost at this
        rwa [startsFrom_len] at this
      have HFi : Hid (∀ w F, (ModA true 77 R vs2 hs2 c).at_ w F → Calls Tryd.prog 15 #[.pointer (some ⟨R, 0, none⟩), .int .i64 0] w fun r w' => r = .returned (.agg #[.int .i64 l0.first.n0, .int .i64 l0.first.n1, .int .i64 l0.first.n2, .int .i64 l0.first.n3]) ∧ Below w.heap.size w w') := fun w F h => first_at R vs2 hs2 c w F 0 l0 h hl0
      have HPr : Hid (∀ w F, (ModA true 77 R vs2 hs2 c).at_ w F → Calls Tryd.prog 17 #[.pointer (some ⟨R, 0, none⟩), .int .i64 0] w (ClonePost p0 w)) := fun w F h => program_at R vs2 hs2 c w F 0 k0 l0 p0 h hl0 hk0 hp0 hpn0
      clear hlp hk0 hl0 hp0
      go_wp2_with first
        | go_skip
        | ((with_reducible refine wpList_skip ?hw ?_); (case hw => with_unfolding_all rfl); simp only [Act.put, List.setIfInBounds_toArray, List.set_cons_succ, List.set_cons_zero])
        | ((with_reducible refine tot_done ?ht ?_); (case ht => kernel_rfl))
        | ((with_reducible apply wps_text S); (case hm => kernel_rfl); (case hB => decide +kernel); clear S; intro wz S)
        | ((with_reducible apply wps_boxa S); (case hx => rfl); clear S; intro bz wz S)
        | ((with_reducible apply wps_box1 (v := .int _ _) S); (case hx => rfl); (case h1 => rfl); clear S; intro bz wz S)
        | ((with_reducible apply wps_box1 (v := .bool _) S); (case hx => rfl); (case h1 => rfl); clear S; intro bz wz S)
        | ((with_reducible apply wps_box1 (v := .slice _ _ _) S); (case hx => rfl); (case h1 => rfl); clear S; intro bz wz S)
        | ((with_reducible apply wps_box1 (v := .pointer _) S); (case hx => rfl); (case h1 => rfl); clear S; intro bz wz S)
        | ((with_reducible apply wps_box1 (v := .map _) S); (case hx => rfl); (case h1 => rfl); clear S; intro bz wz S)
        | ((with_reducible apply wps_box1 (v := .string _) S); (case hx => rfl); (case h1 => rfl); clear S; intro bz wz S)
        | ((with_reducible apply wps_box1 (v := .func _ _ _) S); (case hx => rfl); (case h1 => rfl); clear S; intro bz wz S)
        | ((with_reducible apply wps_alloca (E := 26) S); (case hz => exact Tryd.zeroValue26); clear S; intro bz wz S)
        | ((with_reducible apply wps_alloca (E := 46) S); (case hz => exact Tryd.zeroValue46); clear S; intro bz wz S)
        | ((with_reducible apply wps_load S 0); (case hx => rfl); (case hi => rfl); (case hT => decide +kernel); (case hu => rfl))
        | ((with_reducible apply wps_loada (T := 26) (k := 6) S 0); (case hx => rfl); (case hi => rfl); (case hT => decide +kernel); (case hk => exact Nat.le_of_ble_eq_true rfl))
        | ((with_reducible apply wps_loada (T := 46) (k := 4) S 0); (case hx => rfl); (case hi => rfl); (case hT => decide +kernel); (case hk => exact Nat.le_of_ble_eq_true rfl))
      refine Calls.mono (HEv.out _ _ (S.get (i := 5) rfl).choose_spec) ?_
      rintro e wz ⟨ad1, c1, rfl, T⟩
      replace S := (S.join T rfl).freeze true 0 ecells rfl
      simp only [List.cons_append, List.nil_append, List.set_cons_zero] at S
      clear T
      go_wp2_with first
        | go_skip
        | ((with_reducible refine wpList_skip ?hw ?_); (case hw => with_unfolding_all rfl); simp only [Act.put, List.setIfInBounds_toArray, List.set_cons_succ, List.set_cons_zero])
        | ((with_reducible apply wps_alloca (E := 46) S); (case hz => exact Tryd.zeroValue46); clear S; intro bf wz S)
        | (go_at_call 15; refine Calls.mono (HFi.out _ _ (S.get (i := 6) rfl).choose_spec) ?_; rintro e wz ⟨rfl, hE⟩; replace S := S.ext (Keep.of_below hE); clear hE)
        | ((with_reducible apply wps_storea (T := 46) S 0 (vs := [.int .i64 l0.first.n0, .int .i64 l0.first.n1, .int .i64 l0.first.n2, .int .i64 l0.first.n3]) (m := 4)); (case hx => rfl); (case hy => rfl); (case hi => rfl); (case hT => decide +kernel); (case hm => rfl); (case h1 => rfl); (case hn => exact Nat.le_of_ble_eq_true rfl); clear S; intro wz S; simp only [List.set_cons_zero, List.set_cons_succ, setAll, List.setIfInBounds_toArray] at S)
        | ((with_reducible refine tot_done ?ht ?_); (case ht => kernel_rfl))
        | ((with_reducible apply wps_text S); (case hm => kernel_rfl); (case hB => decide +kernel); clear S; intro wz S)
        | ((with_reducible apply wps_boxa S); (case hx => rfl); clear S; intro bz wz S)
        | ((with_reducible apply wps_box1 (v := .int _ _) S); (case hx => rfl); (case h1 => rfl); clear S; intro bz wz S)
        | ((with_reducible apply wps_box1 (v := .bool _) S); (case hx => rfl); (case h1 => rfl); clear S; intro bz wz S)
        | ((with_reducible apply wps_box1 (v := .slice _ _ _) S); (case hx => rfl); (case h1 => rfl); clear S; intro bz wz S)
        | ((with_reducible apply wps_box1 (v := .pointer _) S); (case hx => rfl); (case h1 => rfl); clear S; intro bz wz S)
        | ((with_reducible apply wps_box1 (v := .map _) S); (case hx => rfl); (case h1 => rfl); clear S; intro bz wz S)
        | ((with_reducible apply wps_box1 (v := .string _) S); (case hx => rfl); (case h1 => rfl); clear S; intro bz wz S)
        | ((with_reducible apply wps_box1 (v := .func _ _ _) S); (case hx => rfl); (case h1 => rfl); clear S; intro bz wz S)
        | ((with_reducible apply wps_alloca (E := 26) S); (case hz => exact Tryd.zeroValue26); clear S; intro bz wz S)
        | ((with_reducible apply wps_alloca (E := 46) S); (case hz => exact Tryd.zeroValue46); clear S; intro bz wz S)
        | ((with_reducible apply wps_load S 0); (case hx => rfl); (case hi => rfl); (case hT => decide +kernel); (case hu => rfl))
        | ((with_reducible apply wps_loada (T := 26) (k := 6) S 0); (case hx => rfl); (case hi => rfl); (case hT => decide +kernel); (case hk => exact Nat.le_of_ble_eq_true rfl))
        | ((with_reducible apply wps_loada (T := 46) (k := 4) S 0); (case hx => rfl); (case hi => rfl); (case hT => decide +kernel); (case hk => exact Nat.le_of_ble_eq_true rfl))
      refine Calls.mono (HPr.out _ _ (S.get (i := 7) rfl).choose_spec) ?_
      rintro e wz ⟨adQ, cQ, rfl, T⟩
      replace S := (S.join T rfl).freeze true 0 incells rfl
      simp only [List.cons_append, List.nil_append, List.set_cons_zero] at S
      clear T
      go_wp2_with first
        | go_skip
        | ((with_reducible refine wpList_skip ?hw ?_); (case hw => with_unfolding_all rfl); simp only [Act.put, List.setIfInBounds_toArray, List.set_cons_succ, List.set_cons_zero])
        | ((with_reducible refine tot_done ?ht ?_); (case ht => kernel_rfl))
        | ((with_reducible apply wps_text S); (case hm => kernel_rfl); (case hB => decide +kernel); clear S; intro wz S)
        | ((with_reducible apply wps_boxa S); (case hx => rfl); clear S; intro bz wz S)
        | ((with_reducible apply wps_box1 (v := .int _ _) S); (case hx => rfl); (case h1 => rfl); clear S; intro bz wz S)
        | ((with_reducible apply wps_box1 (v := .bool _) S); (case hx => rfl); (case h1 => rfl); clear S; intro bz wz S)
        | ((with_reducible apply wps_box1 (v := .slice _ _ _) S); (case hx => rfl); (case h1 => rfl); clear S; intro bz wz S)
        | ((with_reducible apply wps_box1 (v := .pointer _) S); (case hx => rfl); (case h1 => rfl); clear S; intro bz wz S)
        | ((with_reducible apply wps_box1 (v := .map _) S); (case hx => rfl); (case h1 => rfl); clear S; intro bz wz S)
        | ((with_reducible apply wps_box1 (v := .string _) S); (case hx => rfl); (case h1 => rfl); clear S; intro bz wz S)
        | ((with_reducible apply wps_box1 (v := .func _ _ _) S); (case hx => rfl); (case h1 => rfl); clear S; intro bz wz S)
        | ((with_reducible apply wps_alloca (E := 26) S); (case hz => exact Tryd.zeroValue26); clear S; intro bz wz S)
        | ((with_reducible apply wps_alloca (E := 46) S); (case hz => exact Tryd.zeroValue46); clear S; intro bz wz S)
        | ((with_reducible apply wps_load S 0); (case hx => rfl); (case hi => rfl); (case hT => decide +kernel); (case hu => rfl))
        | ((with_reducible apply wps_loada (T := 26) (k := 6) S 0); (case hx => rfl); (case hi => rfl); (case hT => decide +kernel); (case hk => exact Nat.le_of_ble_eq_true rfl))
        | ((with_reducible apply wps_loada (T := 46) (k := 4) S 0); (case hx => rfl); (case hi => rfl); (case hT => decide +kernel); (case hk => exact Nat.le_of_ble_eq_true rfl))
      refine Calls.mono (lplain_calls _ p0 _ _ (S.get (i := 0) rfl).choose_spec hpn0) ?_
      rintro e wz ⟨adP, cP0, rfl, T⟩
      replace S := ((S.join T rfl).freeze true 0 incells rfl).pick [0, 2, 3, 4, 5, 6, 7, 8, 9, 10] rfl
      simp only [List.cons_append, List.nil_append, List.set_cons_zero, pick, nth] at S
      clear T
      go_wp2_with first
        | go_skip
        | ((with_reducible refine wpList_skip ?hw ?_); (case hw => with_unfolding_all rfl); simp only [Act.put, List.setIfInBounds_toArray, List.set_cons_succ, List.set_cons_zero])
        | ((with_reducible refine tot_done ?ht ?_); (case ht => kernel_rfl))
        | ((with_reducible apply wps_text S); (case hm => kernel_rfl); (case hB => decide +kernel); clear S; intro wz S)
        | ((with_reducible apply wps_boxa S); (case hx => rfl); clear S; intro bz wz S)
        | ((with_reducible apply wps_box1 (v := .int _ _) S); (case hx => rfl); (case h1 => rfl); clear S; intro bz wz S)
        | ((with_reducible apply wps_box1 (v := .bool _) S); (case hx => rfl); (case h1 => rfl); clear S; intro bz wz S)
        | ((with_reducible apply wps_box1 (v := .slice _ _ _) S); (case hx => rfl); (case h1 => rfl); clear S; intro bz wz S)
        | ((with_reducible apply wps_box1 (v := .pointer _) S); (case hx => rfl); (case h1 => rfl); clear S; intro bz wz S)
        | ((with_reducible apply wps_box1 (v := .map _) S); (case hx => rfl); (case h1 => rfl); clear S; intro bz wz S)
        | ((with_reducible apply wps_box1 (v := .string _) S); (case hx => rfl); (case h1 => rfl); clear S; intro bz wz S)
        | ((with_reducible apply wps_box1 (v := .func _ _ _) S); (case hx => rfl); (case h1 => rfl); clear S; intro bz wz S)
        | ((with_reducible apply wps_alloca (E := 26) S); (case hz => exact Tryd.zeroValue26); clear S; intro bz wz S)
        | ((with_reducible apply wps_alloca (E := 46) S); (case hz => exact Tryd.zeroValue46); clear S; intro bz wz S)
        | ((with_reducible apply wps_load S 0); (case hx => rfl); (case hi => rfl); (case hT => decide +kernel); (case hu => rfl))
        | ((with_reducible apply wps_loada (T := 26) (k := 6) S 0); (case hx => rfl); (case hi => rfl); (case hT => decide +kernel); (case hk => exact Nat.le_of_ble_eq_true rfl))
        | ((with_reducible apply wps_loada (T := 46) (k := 4) S 0); (case hx => rfl); (case hi => rfl); (case hT => decide +kernel); (case hk => exact Nat.le_of_ble_eq_true rfl))
        | ((with_reducible apply wps_load S 1); (case hx => rfl); (case hi => rfl); (case hT => decide +kernel); (case hu => rfl))
        | ((with_reducible apply wps_loada (T := 26) (k := 6) S 1); (case hx => rfl); (case hi => rfl); (case hT => decide +kernel); (case hk => exact Nat.le_of_ble_eq_true rfl))
        | ((with_reducible apply wps_loada (T := 46) (k := 4) S 1); (case hx => rfl); (case hi => rfl); (case hT => decide +kernel); (case hk => exact Nat.le_of_ble_eq_true rfl))
        | ((with_reducible apply wps_load S 2); (case hx => rfl); (case hi => rfl); (case hT => decide +kernel); (case hu => rfl))
        | ((with_reducible apply wps_loada (T := 26) (k := 6) S 2); (case hx => rfl); (case hi => rfl); (case hT => decide +kernel); (case hk => exact Nat.le_of_ble_eq_true rfl))
        | ((with_reducible apply wps_loada (T := 46) (k := 4) S 2); (case hx => rfl); (case hi => rfl); (case hT => decide +kernel); (case hk => exact Nat.le_of_ble_eq_true rfl))
        | ((with_reducible apply wps_load S 3); (case hx => rfl); (case hi => rfl); (case hT => decide +kernel); (case hu => rfl))
        | ((with_reducible apply wps_loada (T := 26) (k := 6) S 3); (case hx => rfl); (case hi => rfl); (case hT => decide +kernel); (case hk => exact Nat.le_of_ble_eq_true rfl))
        | ((with_reducible apply wps_loada (T := 46) (k := 4) S 3); (case hx => rfl); (case hi => rfl); (case hT => decide +kernel); (case hk => exact Nat.le_of_ble_eq_true rfl))
      go_loopw [13] (fun i wr => IdxRel [Sl true Instr.cells 5 (.slice adP p0.length cP0) p0, Blk false bf #[.int .i64 l0.first.n0, .int .i64 l0.first.n1, .int .i64 l0.first.n2, .int .i64 l0.first.n3] 46, Sl true Event.cells 7 (.slice ad1 c.starts.length c1) (evsOf c), Blk false bm #[.slice (some ⟨RG, 0, none⟩) c.programs.length cg, .slice azl c.lps.length czl, .slice azs c.starts.length czs, .int .i64 c.fin, .int .i64 c.fuel, .int .i64 c.fan] 26, Own 44 hcell 1 (.slice (some ⟨RG, 0, none⟩) c.programs.length cg) gs, Room 5 (gs.map Hd.val), Room 5 [.slice azl c.lps.length czl], Room 4 [.slice azs c.starts.length czs], ModA true 77 R vs2 hs2 c, Tab] c.programs.length w i wr) (fun i _ => c.programs.length - (intOf i).toNat)
      case atStart => exact ⟨0, Nat.zero_le _, rfl, S⟩
      case round =>
        clear S
        obtain ⟨j, hj, rfl, S⟩ := hrel
        by_cases hlt : j < c.programs.length
        · obtain ⟨g, hg1⟩ : ∃ g, gs[j]? = some g := ⟨_, List.getElem?_eq_getElem (by omega)⟩
          have hgn := Hg.out g (List.mem_of_getElem? hg1)
          obtain ⟨gad, gn, gc⟩ := g
          simp only at hgn
          have hgv : (gs.map Hd.val)[j]? = some (.slice gad gn gc) := by rw [List.getElem?_map, hg1]; rfl
          have hlt2 : (j : Int) < c.programs.length := by omega
          have Hg1 := Lib.hid hg1
          have Hgv := Lib.hid hgv
          clear hg1 hgv
          go_wp2_with first
            | go_skip
            | ((with_reducible refine wpList_skip ?hw ?_); (case hw => with_unfolding_all rfl); simp only [Act.put, List.setIfInBounds_toArray, List.set_cons_succ, List.set_cons_zero])
            | ((with_reducible refine tot_done ?ht ?_); (case ht => kernel_rfl))
            | ((with_reducible apply wps_text S); (case hm => kernel_rfl); (case hB => decide +kernel); clear S; intro wz S)
            | ((with_reducible apply wps_boxa S); (case hx => rfl); clear S; intro bz wz S)
            | ((with_reducible apply wps_box1 (v := .int _ _) S); (case hx => rfl); (case h1 => rfl); clear S; intro bz wz S)
            | ((with_reducible apply wps_box1 (v := .bool _) S); (case hx => rfl); (case h1 => rfl); clear S; intro bz wz S)
            | ((with_reducible apply wps_box1 (v := .slice _ _ _) S); (case hx => rfl); (case h1 => rfl); clear S; intro bz wz S)
            | ((with_reducible apply wps_box1 (v := .pointer _) S); (case hx => rfl); (case h1 => rfl); clear S; intro bz wz S)
            | ((with_reducible apply wps_box1 (v := .map _) S); (case hx => rfl); (case h1 => rfl); clear S; intro bz wz S)
            | ((with_reducible apply wps_box1 (v := .string _) S); (case hx => rfl); (case h1 => rfl); clear S; intro bz wz S)
            | ((with_reducible apply wps_box1 (v := .func _ _ _) S); (case hx => rfl); (case h1 => rfl); clear S; intro bz wz S)
            | ((with_reducible apply wps_alloca (E := 26) S); (case hz => exact Tryd.zeroValue26); clear S; intro bz wz S)
            | ((with_reducible apply wps_alloca (E := 46) S); (case hz => exact Tryd.zeroValue46); clear S; intro bz wz S)
            | ((with_reducible apply wps_load S 0); (case hx => rfl); (case hi => rfl); (case hT => decide +kernel); (case hu => rfl))
            | ((with_reducible apply wps_loada (T := 26) (k := 6) S 0); (case hx => rfl); (case hi => rfl); (case hT => decide +kernel); (case hk => exact Nat.le_of_ble_eq_true rfl))
            | ((with_reducible apply wps_loada (T := 46) (k := 4) S 0); (case hx => rfl); (case hi => rfl); (case hT => decide +kernel); (case hk => exact Nat.le_of_ble_eq_true rfl))
            | ((with_reducible apply wps_load S 1); (case hx => rfl); (case hi => rfl); (case hT => decide +kernel); (case hu => rfl))
            | ((with_reducible apply wps_loada (T := 26) (k := 6) S 1); (case hx => rfl); (case hi => rfl); (case hT => decide +kernel); (case hk => exact Nat.le_of_ble_eq_true rfl))
            | ((with_reducible apply wps_loada (T := 46) (k := 4) S 1); (case hx => rfl); (case hi => rfl); (case hT => decide +kernel); (case hk => exact Nat.le_of_ble_eq_true rfl))
            | ((with_reducible apply wps_load S 2); (case hx => rfl); (case hi => rfl); (case hT => decide +kernel); (case hu => rfl))
            | ((with_reducible apply wps_loada (T := 26) (k := 6) S 2); (case hx => rfl); (case hi => rfl); (case hT => decide +kernel); (case hk => exact Nat.le_of_ble_eq_true rfl))
            | ((with_reducible apply wps_loada (T := 46) (k := 4) S 2); (case hx => rfl); (case hi => rfl); (case hT => decide +kernel); (case hk => exact Nat.le_of_ble_eq_true rfl))
            | ((with_reducible apply wps_load S 3); (case hx => rfl); (case hi => rfl); (case hT => decide +kernel); (case hu => rfl))
            | ((with_reducible apply wps_loada (T := 26) (k := 6) S 3); (case hx => rfl); (case hi => rfl); (case hT => decide +kernel); (case hk => exact Nat.le_of_ble_eq_true rfl))
            | ((with_reducible apply wps_loada (T := 46) (k := 4) S 3); (case hx => rfl); (case hi => rfl); (case hT => decide +kernel); (case hk => exact Nat.le_of_ble_eq_true rfl))
          go_loopw [14] (fun i wr => IdxRel [Sl true Instr.cells 5 (.slice adP p0.length cP0) p0, Blk false bf #[.int .i64 l0.first.n0, .int .i64 l0.first.n1, .int .i64 l0.first.n2, .int .i64 l0.first.n3] 46, Sl true Event.cells 7 (.slice ad1 c.starts.length c1) (evsOf c), Blk false bm #[.slice (some ⟨RG, 0, none⟩) c.programs.length cg, .slice azl c.lps.length czl, .slice azs c.starts.length czs, .int .i64 c.fin, .int .i64 c.fuel, .int .i64 c.fan] 26, Own 44 hcell 1 (.slice (some ⟨RG, 0, none⟩) c.programs.length cg) gs, Room 5 (gs.map Hd.val), Room 5 [.slice azl c.lps.length czl], Room 4 [.slice azs c.starts.length czs], ModA true 77 R vs2 hs2 c, Tab] gn w i wr) (fun i _ => gn - (intOf i).toNat)
          case atStart => exact ⟨0, Nat.zero_le _, rfl, S⟩
          case round =>
            clear S
            obtain ⟨k, hk, rfl, S⟩ := hrel
            by_cases hkl : k < gn
            · obtain ⟨Rg, rfl⟩ : ∃ Rg, gad = some ⟨Rg, 0, none⟩ := by
                obtain ⟨ad, n, c', e, h⟩ := S.roomForm 5 rfl Hgv.out
                cases e
                exact h (by omega)
              have hkl2 : (k : Int) < gn := by omega
              go_wp2_with first
                | go_skip
                | ((with_reducible refine wpList_skip ?hw ?_); (case hw => with_unfolding_all rfl); simp only [Act.put, List.setIfInBounds_toArray, List.set_cons_succ, List.set_cons_zero])
                | ((with_reducible apply wps_load_own hcells S 4 (hj := Hg1.out) (q := 0) (u := (.slice (some ⟨Rg, 0, none⟩) gn gc))); (case hx => rfl); (case hi => rfl); (case hn => omega); (case hT => decide +kernel); (case hu => rfl))
                | ((with_reducible apply wps_store_room S 5 (j := k) (hv := Hgv.out) (us := [.int .i64 15, .int .i64 9, .int .i64 0, .int .i64 0, .int .i64 0])); (case hx => rfl); (case hi => rfl); (case hn => omega); (case hj => omega); (case hy => rfl); (case hT => decide +kernel); (case hm => rfl); (case h1 => rfl); clear S; intro wz S)
                | ((with_reducible refine tot_done ?ht ?_); (case ht => kernel_rfl))
                | ((with_reducible apply wps_text S); (case hm => kernel_rfl); (case hB => decide +kernel); clear S; intro wz S)
                | ((with_reducible apply wps_boxa S); (case hx => rfl); clear S; intro bz wz S)
                | ((with_reducible apply wps_box1 (v := .int _ _) S); (case hx => rfl); (case h1 => rfl); clear S; intro bz wz S)
                | ((with_reducible apply wps_box1 (v := .bool _) S); (case hx => rfl); (case h1 => rfl); clear S; intro bz wz S)
                | ((with_reducible apply wps_box1 (v := .slice _ _ _) S); (case hx => rfl); (case h1 => rfl); clear S; intro bz wz S)
                | ((with_reducible apply wps_box1 (v := .pointer _) S); (case hx => rfl); (case h1 => rfl); clear S; intro bz wz S)
                | ((with_reducible apply wps_box1 (v := .map _) S); (case hx => rfl); (case h1 => rfl); clear S; intro bz wz S)
                | ((with_reducible apply wps_box1 (v := .string _) S); (case hx => rfl); (case h1 => rfl); clear S; intro bz wz S)
                | ((with_reducible apply wps_box1 (v := .func _ _ _) S); (case hx => rfl); (case h1 => rfl); clear S; intro bz wz S)
                | ((with_reducible apply wps_alloca (E := 26) S); (case hz => exact Tryd.zeroValue26); clear S; intro bz wz S)
                | ((with_reducible apply wps_alloca (E := 46) S); (case hz => exact Tryd.zeroValue46); clear S; intro bz wz S)
                | ((with_reducible apply wps_load S 0); (case hx => rfl); (case hi => rfl); (case hT => decide +kernel); (case hu => rfl))
                | ((with_reducible apply wps_loada (T := 26) (k := 6) S 0); (case hx => rfl); (case hi => rfl); (case hT => decide +kernel); (case hk => exact Nat.le_of_ble_eq_true rfl))
                | ((with_reducible apply wps_loada (T := 46) (k := 4) S 0); (case hx => rfl); (case hi => rfl); (case hT => decide +kernel); (case hk => exact Nat.le_of_ble_eq_true rfl))
                | ((with_reducible apply wps_load S 1); (case hx => rfl); (case hi => rfl); (case hT => decide +kernel); (case hu => rfl))
                | ((with_reducible apply wps_loada (T := 26) (k := 6) S 1); (case hx => rfl); (case hi => rfl); (case hT => decide +kernel); (case hk => exact Nat.le_of_ble_eq_true rfl))
                | ((with_reducible apply wps_loada (T := 46) (k := 4) S 1); (case hx => rfl); (case hi => rfl); (case hT => decide +kernel); (case hk => exact Nat.le_of_ble_eq_true rfl))
                | ((with_reducible apply wps_load S 2); (case hx => rfl); (case hi => rfl); (case hT => decide +kernel); (case hu => rfl))
                | ((with_reducible apply wps_loada (T := 26) (k := 6) S 2); (case hx => rfl); (case hi => rfl); (case hT => decide +kernel); (case hk => exact Nat.le_of_ble_eq_true rfl))
                | ((with_reducible apply wps_loada (T := 46) (k := 4) S 2); (case hx => rfl); (case hi => rfl); (case hT => decide +kernel); (case hk => exact Nat.le_of_ble_eq_true rfl))
                | ((with_reducible apply wps_load S 3); (case hx => rfl); (case hi => rfl); (case hT => decide +kernel); (case hu => rfl))
                | ((with_reducible apply wps_loada (T := 26) (k := 6) S 3); (case hx => rfl); (case hi => rfl); (case hT => decide +kernel); (case hk => exact Nat.le_of_ble_eq_true rfl))
                | ((with_reducible apply wps_loada (T := 46) (k := 4) S 3); (case hx => rfl); (case hi => rfl); (case hT => decide +kernel); (case hk => exact Nat.le_of_ble_eq_true rfl))
              go_roundw
              case rel => exact ⟨k + 1, by omega, by go_num, S⟩
              case measure => first | (simp [intOf]; done) | (simp [intOf]; omega)
            · obtain rfl : k = gn := by omega
              go_wp2_with first
                | go_skip
                | ((with_reducible refine wpList_skip ?hw ?_); (case hw => with_unfolding_all rfl); simp only [Act.put, List.setIfInBounds_toArray, List.set_cons_succ, List.set_cons_zero])
                | ((with_reducible apply wps_load_own hcells S 4 (hj := Hg1.out) (q := 0) (u := (.slice gad k gc))); (case hx => rfl); (case hi => rfl); (case hn => omega); (case hT => decide +kernel); (case hu => rfl))
                | ((with_reducible refine tot_done ?ht ?_); (case ht => kernel_rfl))
                | ((with_reducible apply wps_text S); (case hm => kernel_rfl); (case hB => decide +kernel); clear S; intro wz S)
                | ((with_reducible apply wps_boxa S); (case hx => rfl); clear S; intro bz wz S)
                | ((with_reducible apply wps_box1 (v := .int _ _) S); (case hx => rfl); (case h1 => rfl); clear S; intro bz wz S)
                | ((with_reducible apply wps_box1 (v := .bool _) S); (case hx => rfl); (case h1 => rfl); clear S; intro bz wz S)
                | ((with_reducible apply wps_box1 (v := .slice _ _ _) S); (case hx => rfl); (case h1 => rfl); clear S; intro bz wz S)
                | ((with_reducible apply wps_box1 (v := .pointer _) S); (case hx => rfl); (case h1 => rfl); clear S; intro bz wz S)
                | ((with_reducible apply wps_box1 (v := .map _) S); (case hx => rfl); (case h1 => rfl); clear S; intro bz wz S)
                | ((with_reducible apply wps_box1 (v := .string _) S); (case hx => rfl); (case h1 => rfl); clear S; intro bz wz S)
                | ((with_reducible apply wps_box1 (v := .func _ _ _) S); (case hx => rfl); (case h1 => rfl); clear S; intro bz wz S)
                | ((with_reducible apply wps_alloca (E := 26) S); (case hz => exact Tryd.zeroValue26); clear S; intro bz wz S)
                | ((with_reducible apply wps_alloca (E := 46) S); (case hz => exact Tryd.zeroValue46); clear S; intro bz wz S)
                | ((with_reducible apply wps_load S 0); (case hx => rfl); (case hi => rfl); (case hT => decide +kernel); (case hu => rfl))
                | ((with_reducible apply wps_loada (T := 26) (k := 6) S 0); (case hx => rfl); (case hi => rfl); (case hT => decide +kernel); (case hk => exact Nat.le_of_ble_eq_true rfl))
                | ((with_reducible apply wps_loada (T := 46) (k := 4) S 0); (case hx => rfl); (case hi => rfl); (case hT => decide +kernel); (case hk => exact Nat.le_of_ble_eq_true rfl))
                | ((with_reducible apply wps_load S 1); (case hx => rfl); (case hi => rfl); (case hT => decide +kernel); (case hu => rfl))
                | ((with_reducible apply wps_loada (T := 26) (k := 6) S 1); (case hx => rfl); (case hi => rfl); (case hT => decide +kernel); (case hk => exact Nat.le_of_ble_eq_true rfl))
                | ((with_reducible apply wps_loada (T := 46) (k := 4) S 1); (case hx => rfl); (case hi => rfl); (case hT => decide +kernel); (case hk => exact Nat.le_of_ble_eq_true rfl))
                | ((with_reducible apply wps_load S 2); (case hx => rfl); (case hi => rfl); (case hT => decide +kernel); (case hu => rfl))
                | ((with_reducible apply wps_loada (T := 26) (k := 6) S 2); (case hx => rfl); (case hi => rfl); (case hT => decide +kernel); (case hk => exact Nat.le_of_ble_eq_true rfl))
                | ((with_reducible apply wps_loada (T := 46) (k := 4) S 2); (case hx => rfl); (case hi => rfl); (case hT => decide +kernel); (case hk => exact Nat.le_of_ble_eq_true rfl))
                | ((with_reducible apply wps_load S 3); (case hx => rfl); (case hi => rfl); (case hT => decide +kernel); (case hu => rfl))
                | ((with_reducible apply wps_loada (T := 26) (k := 6) S 3); (case hx => rfl); (case hi => rfl); (case hT => decide +kernel); (case hk => exact Nat.le_of_ble_eq_true rfl))
                | ((with_reducible apply wps_loada (T := 46) (k := 4) S 3); (case hx => rfl); (case hi => rfl); (case hT => decide +kernel); (case hk => exact Nat.le_of_ble_eq_true rfl))
              go_roundw
              case rel => exact ⟨j + 1, by omega, by go_num, S⟩
              case measure => first | (simp [intOf]; done) | (simp [intOf]; omega)
        · obtain rfl : j = c.programs.length := by omega
          go_wp2_with first
            | go_skip
            | ((with_reducible refine wpList_skip ?hw ?_); (case hw => with_unfolding_all rfl); simp only [Act.put, List.setIfInBounds_toArray, List.set_cons_succ, List.set_cons_zero])
            | ((with_reducible refine tot_done ?ht ?_); (case ht => kernel_rfl))
            | ((with_reducible apply wps_text S); (case hm => kernel_rfl); (case hB => decide +kernel); clear S; intro wz S)
            | ((with_reducible apply wps_boxa S); (case hx => rfl); clear S; intro bz wz S)
            | ((with_reducible apply wps_box1 (v := .int _ _) S); (case hx => rfl); (case h1 => rfl); clear S; intro bz wz S)
            | ((with_reducible apply wps_box1 (v := .bool _) S); (case hx => rfl); (case h1 => rfl); clear S; intro bz wz S)
            | ((with_reducible apply wps_box1 (v := .slice _ _ _) S); (case hx => rfl); (case h1 => rfl); clear S; intro bz wz S)
            | ((with_reducible apply wps_box1 (v := .pointer _) S); (case hx => rfl); (case h1 => rfl); clear S; intro bz wz S)
            | ((with_reducible apply wps_box1 (v := .map _) S); (case hx => rfl); (case h1 => rfl); clear S; intro bz wz S)
            | ((with_reducible apply wps_box1 (v := .string _) S); (case hx => rfl); (case h1 => rfl); clear S; intro bz wz S)
            | ((with_reducible apply wps_box1 (v := .func _ _ _) S); (case hx => rfl); (case h1 => rfl); clear S; intro bz wz S)
            | ((with_reducible apply wps_alloca (E := 26) S); (case hz => exact Tryd.zeroValue26); clear S; intro bz wz S)
            | ((with_reducible apply wps_alloca (E := 46) S); (case hz => exact Tryd.zeroValue46); clear S; intro bz wz S)
            | ((with_reducible apply wps_load S 0); (case hx => rfl); (case hi => rfl); (case hT => decide +kernel); (case hu => rfl))
            | ((with_reducible apply wps_loada (T := 26) (k := 6) S 0); (case hx => rfl); (case hi => rfl); (case hT => decide +kernel); (case hk => exact Nat.le_of_ble_eq_true rfl))
            | ((with_reducible apply wps_loada (T := 46) (k := 4) S 0); (case hx => rfl); (case hi => rfl); (case hT => decide +kernel); (case hk => exact Nat.le_of_ble_eq_true rfl))
            | ((with_reducible apply wps_load S 1); (case hx => rfl); (case hi => rfl); (case hT => decide +kernel); (case hu => rfl))
            | ((with_reducible apply wps_loada (T := 26) (k := 6) S 1); (case hx => rfl); (case hi => rfl); (case hT => decide +kernel); (case hk => exact Nat.le_of_ble_eq_true rfl))
            | ((with_reducible apply wps_loada (T := 46) (k := 4) S 1); (case hx => rfl); (case hi => rfl); (case hT => decide +kernel); (case hk => exact Nat.le_of_ble_eq_true rfl))
            | ((with_reducible apply wps_load S 2); (case hx => rfl); (case hi => rfl); (case hT => decide +kernel); (case hu => rfl))
            | ((with_reducible apply wps_loada (T := 26) (k := 6) S 2); (case hx => rfl); (case hi => rfl); (case hT => decide +kernel); (case hk => exact Nat.le_of_ble_eq_true rfl))
            | ((with_reducible apply wps_loada (T := 46) (k := 4) S 2); (case hx => rfl); (case hi => rfl); (case hT => decide +kernel); (case hk => exact Nat.le_of_ble_eq_true rfl))
            | ((with_reducible apply wps_load S 3); (case hx => rfl); (case hi => rfl); (case hT => decide +kernel); (case hu => rfl))
            | ((with_reducible apply wps_loada (T := 26) (k := 6) S 3); (case hx => rfl); (case hi => rfl); (case hT => decide +kernel); (case hk => exact Nat.le_of_ble_eq_true rfl))
            | ((with_reducible apply wps_loada (T := 46) (k := 4) S 3); (case hx => rfl); (case hi => rfl); (case hT => decide +kernel); (case hk => exact Nat.le_of_ble_eq_true rfl))
          go_loopw [15] (fun i wr => IdxRel [Sl true Instr.cells 5 (.slice adP p0.length cP0) p0, Blk false bf #[.int .i64 l0.first.n0, .int .i64 l0.first.n1, .int .i64 l0.first.n2, .int .i64 l0.first.n3] 46, Sl true Event.cells 7 (.slice ad1 c.starts.length c1) (evsOf c), Blk false bm #[.slice (some ⟨RG, 0, none⟩) c.programs.length cg, .slice azl c.lps.length czl, .slice azs c.starts.length czs, .int .i64 c.fin, .int .i64 c.fuel, .int .i64 c.fan] 26, Own 44 hcell 1 (.slice (some ⟨RG, 0, none⟩) c.programs.length cg) gs, Room 5 (gs.map Hd.val), Room 5 [.slice azl c.lps.length czl], Room 4 [.slice azs c.starts.length czs], ModA true 77 R vs2 hs2 c, Tab] c.lps.length w i wr) (fun i _ => c.lps.length - (intOf i).toNat)
          case atStart => exact ⟨0, Nat.zero_le _, rfl, S⟩
          case round =>
            clear S
            obtain ⟨j, hj, rfl, S⟩ := hrel
            by_cases hlt : j < c.lps.length
            · obtain ⟨RJ, rfl⟩ : ∃ RJ, azl = some ⟨RJ, 0, none⟩ := by
                obtain ⟨ad, n, c', e, h⟩ := S.roomForm (q := 0) 6 rfl rfl
                cases e
                exact h (by omega)
              have hlt2 : (j : Int) < c.lps.length := by omega
              go_wp2_with first
                | go_skip
                | ((with_reducible refine wpList_skip ?hw ?_); (case hw => with_unfolding_all rfl); simp only [Act.put, List.setIfInBounds_toArray, List.set_cons_succ, List.set_cons_zero])
                | ((with_reducible apply wps_store_room S 6 (j := j) (q := 0) (us := [.int .i64 (-1), .int .i64 7, .int .i64 7, .int .i64 7, .int .i64 7])); (case hx => rfl); (case hi => rfl); (case hv => rfl); (case hn => omega); (case hj => omega); (case hy => rfl); (case hT => decide +kernel); (case hm => rfl); (case h1 => rfl); clear S; intro wz S)
                | ((with_reducible refine tot_done ?ht ?_); (case ht => kernel_rfl))
                | ((with_reducible apply wps_text S); (case hm => kernel_rfl); (case hB => decide +kernel); clear S; intro wz S)
                | ((with_reducible apply wps_boxa S); (case hx => rfl); clear S; intro bz wz S)
                | ((with_reducible apply wps_box1 (v := .int _ _) S); (case hx => rfl); (case h1 => rfl); clear S; intro bz wz S)
                | ((with_reducible apply wps_box1 (v := .bool _) S); (case hx => rfl); (case h1 => rfl); clear S; intro bz wz S)
                | ((with_reducible apply wps_box1 (v := .slice _ _ _) S); (case hx => rfl); (case h1 => rfl); clear S; intro bz wz S)
                | ((with_reducible apply wps_box1 (v := .pointer _) S); (case hx => rfl); (case h1 => rfl); clear S; intro bz wz S)
                | ((with_reducible apply wps_box1 (v := .map _) S); (case hx => rfl); (case h1 => rfl); clear S; intro bz wz S)
                | ((with_reducible apply wps_box1 (v := .string _) S); (case hx => rfl); (case h1 => rfl); clear S; intro bz wz S)
                | ((with_reducible apply wps_box1 (v := .func _ _ _) S); (case hx => rfl); (case h1 => rfl); clear S; intro bz wz S)
                | ((with_reducible apply wps_alloca (E := 26) S); (case hz => exact Tryd.zeroValue26); clear S; intro bz wz S)
                | ((with_reducible apply wps_alloca (E := 46) S); (case hz => exact Tryd.zeroValue46); clear S; intro bz wz S)
                | ((with_reducible apply wps_load S 0); (case hx => rfl); (case hi => rfl); (case hT => decide +kernel); (case hu => rfl))
                | ((with_reducible apply wps_loada (T := 26) (k := 6) S 0); (case hx => rfl); (case hi => rfl); (case hT => decide +kernel); (case hk => exact Nat.le_of_ble_eq_true rfl))
                | ((with_reducible apply wps_loada (T := 46) (k := 4) S 0); (case hx => rfl); (case hi => rfl); (case hT => decide +kernel); (case hk => exact Nat.le_of_ble_eq_true rfl))
                | ((with_reducible apply wps_load S 1); (case hx => rfl); (case hi => rfl); (case hT => decide +kernel); (case hu => rfl))
                | ((with_reducible apply wps_loada (T := 26) (k := 6) S 1); (case hx => rfl); (case hi => rfl); (case hT => decide +kernel); (case hk => exact Nat.le_of_ble_eq_true rfl))
                | ((with_reducible apply wps_loada (T := 46) (k := 4) S 1); (case hx => rfl); (case hi => rfl); (case hT => decide +kernel); (case hk => exact Nat.le_of_ble_eq_true rfl))
                | ((with_reducible apply wps_load S 2); (case hx => rfl); (case hi => rfl); (case hT => decide +kernel); (case hu => rfl))
                | ((with_reducible apply wps_loada (T := 26) (k := 6) S 2); (case hx => rfl); (case hi => rfl); (case hT => decide +kernel); (case hk => exact Nat.le_of_ble_eq_true rfl))
                | ((with_reducible apply wps_loada (T := 46) (k := 4) S 2); (case hx => rfl); (case hi => rfl); (case hT => decide +kernel); (case hk => exact Nat.le_of_ble_eq_true rfl))
                | ((with_reducible apply wps_load S 3); (case hx => rfl); (case hi => rfl); (case hT => decide +kernel); (case hu => rfl))
                | ((with_reducible apply wps_loada (T := 26) (k := 6) S 3); (case hx => rfl); (case hi => rfl); (case hT => decide +kernel); (case hk => exact Nat.le_of_ble_eq_true rfl))
                | ((with_reducible apply wps_loada (T := 46) (k := 4) S 3); (case hx => rfl); (case hi => rfl); (case hT => decide +kernel); (case hk => exact Nat.le_of_ble_eq_true rfl))
              go_roundw
              case rel => exact ⟨j + 1, by omega, by go_num, S⟩
              case measure => first | (simp [intOf]; done) | (simp [intOf]; omega)
            · obtain rfl : j = c.lps.length := by omega
              go_wp2_with first
                | go_skip
                | ((with_reducible refine wpList_skip ?hw ?_); (case hw => with_unfolding_all rfl); simp only [Act.put, List.setIfInBounds_toArray, List.set_cons_succ, List.set_cons_zero])
                | ((with_reducible refine tot_done ?ht ?_); (case ht => kernel_rfl))
                | ((with_reducible apply wps_text S); (case hm => kernel_rfl); (case hB => decide +kernel); clear S; intro wz S)
                | ((with_reducible apply wps_boxa S); (case hx => rfl); clear S; intro bz wz S)
                | ((with_reducible apply wps_box1 (v := .int _ _) S); (case hx => rfl); (case h1 => rfl); clear S; intro bz wz S)
                | ((with_reducible apply wps_box1 (v := .bool _) S); (case hx => rfl); (case h1 => rfl); clear S; intro bz wz S)
                | ((with_reducible apply wps_box1 (v := .slice _ _ _) S); (case hx => rfl); (case h1 => rfl); clear S; intro bz wz S)
                | ((with_reducible apply wps_box1 (v := .pointer _) S); (case hx => rfl); (case h1 => rfl); clear S; intro bz wz S)
                | ((with_reducible apply wps_box1 (v := .map _) S); (case hx => rfl); (case h1 => rfl); clear S; intro bz wz S)
                | ((with_reducible apply wps_box1 (v := .string _) S); (case hx => rfl); (case h1 => rfl); clear S; intro bz wz S)
                | ((with_reducible apply wps_box1 (v := .func _ _ _) S); (case hx => rfl); (case h1 => rfl); clear S; intro bz wz S)
                | ((with_reducible apply wps_alloca (E := 26) S); (case hz => exact Tryd.zeroValue26); clear S; intro bz wz S)
                | ((with_reducible apply wps_alloca (E := 46) S); (case hz => exact Tryd.zeroValue46); clear S; intro bz wz S)
                | ((with_reducible apply wps_load S 0); (case hx => rfl); (case hi => rfl); (case hT => decide +kernel); (case hu => rfl))
                | ((with_reducible apply wps_loada (T := 26) (k := 6) S 0); (case hx => rfl); (case hi => rfl); (case hT => decide +kernel); (case hk => exact Nat.le_of_ble_eq_true rfl))
                | ((with_reducible apply wps_loada (T := 46) (k := 4) S 0); (case hx => rfl); (case hi => rfl); (case hT => decide +kernel); (case hk => exact Nat.le_of_ble_eq_true rfl))
                | ((with_reducible apply wps_load S 1); (case hx => rfl); (case hi => rfl); (case hT => decide +kernel); (case hu => rfl))
                | ((with_reducible apply wps_loada (T := 26) (k := 6) S 1); (case hx => rfl); (case hi => rfl); (case hT => decide +kernel); (case hk => exact Nat.le_of_ble_eq_true rfl))
                | ((with_reducible apply wps_loada (T := 46) (k := 4) S 1); (case hx => rfl); (case hi => rfl); (case hT => decide +kernel); (case hk => exact Nat.le_of_ble_eq_true rfl))
                | ((with_reducible apply wps_load S 2); (case hx => rfl); (case hi => rfl); (case hT => decide +kernel); (case hu => rfl))
                | ((with_reducible apply wps_loada (T := 26) (k := 6) S 2); (case hx => rfl); (case hi => rfl); (case hT => decide +kernel); (case hk => exact Nat.le_of_ble_eq_true rfl))
                | ((with_reducible apply wps_loada (T := 46) (k := 4) S 2); (case hx => rfl); (case hi => rfl); (case hT => decide +kernel); (case hk => exact Nat.le_of_ble_eq_true rfl))
                | ((with_reducible apply wps_load S 3); (case hx => rfl); (case hi => rfl); (case hT => decide +kernel); (case hu => rfl))
                | ((with_reducible apply wps_loada (T := 26) (k := 6) S 3); (case hx => rfl); (case hi => rfl); (case hT => decide +kernel); (case hk => exact Nat.le_of_ble_eq_true rfl))
                | ((with_reducible apply wps_loada (T := 46) (k := 4) S 3); (case hx => rfl); (case hi => rfl); (case hT => decide +kernel); (case hk => exact Nat.le_of_ble_eq_true rfl))
              go_loopw [16] (fun i wr => IdxRel [Sl true Instr.cells 5 (.slice adP p0.length cP0) p0, Blk false bf #[.int .i64 l0.first.n0, .int .i64 l0.first.n1, .int .i64 l0.first.n2, .int .i64 l0.first.n3] 46, Sl true Event.cells 7 (.slice ad1 c.starts.length c1) (evsOf c), Blk false bm #[.slice (some ⟨RG, 0, none⟩) c.programs.length cg, .slice azl c.lps.length czl, .slice azs c.starts.length czs, .int .i64 c.fin, .int .i64 c.fuel, .int .i64 c.fan] 26, Own 44 hcell 1 (.slice (some ⟨RG, 0, none⟩) c.programs.length cg) gs, Room 5 (gs.map Hd.val), Room 5 [.slice azl c.lps.length czl], Room 4 [.slice azs c.starts.length czs], ModA true 77 R vs2 hs2 c, Tab] c.starts.length w i wr) (fun i _ => c.starts.length - (intOf i).toNat)
              case atStart => exact ⟨0, Nat.zero_le _, rfl, S⟩
              case round =>
                clear S
                obtain ⟨j, hj, rfl, S⟩ := hrel
                by_cases hlt : j < c.starts.length
                · obtain ⟨RJ, rfl⟩ : ∃ RJ, azs = some ⟨RJ, 0, none⟩ := by
                    obtain ⟨ad, n, c', e, h⟩ := S.roomForm (q := 0) 7 rfl rfl
                    cases e
                    exact h (by omega)
                  have hlt2 : (j : Int) < c.starts.length := by omega
                  go_wp2_with first
                    | go_skip
                    | ((with_reducible refine wpList_skip ?hw ?_); (case hw => with_unfolding_all rfl); simp only [Act.put, List.setIfInBounds_toArray, List.set_cons_succ, List.set_cons_zero])
                    | ((with_reducible apply wps_store_room S 7 (j := j) (q := 0) (us := [.int .i64 0, .int .i64 (-1), .int .i64 0, .int .i64 0])); (case hx => rfl); (case hi => rfl); (case hv => rfl); (case hn => omega); (case hj => omega); (case hy => rfl); (case hT => decide +kernel); (case hm => rfl); (case h1 => rfl); clear S; intro wz S)
                    | ((with_reducible refine tot_done ?ht ?_); (case ht => kernel_rfl))
                    | ((with_reducible apply wps_text S); (case hm => kernel_rfl); (case hB => decide +kernel); clear S; intro wz S)
                    | ((with_reducible apply wps_boxa S); (case hx => rfl); clear S; intro bz wz S)
                    | ((with_reducible apply wps_box1 (v := .int _ _) S); (case hx => rfl); (case h1 => rfl); clear S; intro bz wz S)
                    | ((with_reducible apply wps_box1 (v := .bool _) S); (case hx => rfl); (case h1 => rfl); clear S; intro bz wz S)
                    | ((with_reducible apply wps_box1 (v := .slice _ _ _) S); (case hx => rfl); (case h1 => rfl); clear S; intro bz wz S)
                    | ((with_reducible apply wps_box1 (v := .pointer _) S); (case hx => rfl); (case h1 => rfl); clear S; intro bz wz S)
                    | ((with_reducible apply wps_box1 (v := .map _) S); (case hx => rfl); (case h1 => rfl); clear S; intro bz wz S)
                    | ((with_reducible apply wps_box1 (v := .string _) S); (case hx => rfl); (case h1 => rfl); clear S; intro bz wz S)
                    | ((with_reducible apply wps_box1 (v := .func _ _ _) S); (case hx => rfl); (case h1 => rfl); clear S; intro bz wz S)
                    | ((with_reducible apply wps_alloca (E := 26) S); (case hz => exact Tryd.zeroValue26); clear S; intro bz wz S)
                    | ((with_reducible apply wps_alloca (E := 46) S); (case hz => exact Tryd.zeroValue46); clear S; intro bz wz S)
                    | ((with_reducible apply wps_load S 0); (case hx => rfl); (case hi => rfl); (case hT => decide +kernel); (case hu => rfl))
                    | ((with_reducible apply wps_loada (T := 26) (k := 6) S 0); (case hx => rfl); (case hi => rfl); (case hT => decide +kernel); (case hk => exact Nat.le_of_ble_eq_true rfl))
                    | ((with_reducible apply wps_loada (T := 46) (k := 4) S 0); (case hx => rfl); (case hi => rfl); (case hT => decide +kernel); (case hk => exact Nat.le_of_ble_eq_true rfl))
                    | ((with_reducible apply wps_load S 1); (case hx => rfl); (case hi => rfl); (case hT => decide +kernel); (case hu => rfl))
                    | ((with_reducible apply wps_loada (T := 26) (k := 6) S 1); (case hx => rfl); (case hi => rfl); (case hT => decide +kernel); (case hk => exact Nat.le_of_ble_eq_true rfl))
                    | ((with_reducible apply wps_loada (T := 46) (k := 4) S 1); (case hx => rfl); (case hi => rfl); (case hT => decide +kernel); (case hk => exact Nat.le_of_ble_eq_true rfl))
                    | ((with_reducible apply wps_load S 2); (case hx => rfl); (case hi => rfl); (case hT => decide +kernel); (case hu => rfl))
                    | ((with_reducible apply wps_loada (T := 26) (k := 6) S 2); (case hx => rfl); (case hi => rfl); (case hT => decide +kernel); (case hk => exact Nat.le_of_ble_eq_true rfl))
                    | ((with_reducible apply wps_loada (T := 46) (k := 4) S 2); (case hx => rfl); (case hi => rfl); (case hT => decide +kernel); (case hk => exact Nat.le_of_ble_eq_true rfl))
                    | ((with_reducible apply wps_load S 3); (case hx => rfl); (case hi => rfl); (case hT => decide +kernel); (case hu => rfl))
                    | ((with_reducible apply wps_loada (T := 26) (k := 6) S 3); (case hx => rfl); (case hi => rfl); (case hT => decide +kernel); (case hk => exact Nat.le_of_ble_eq_true rfl))
                    | ((with_reducible apply wps_loada (T := 46) (k := 4) S 3); (case hx => rfl); (case hi => rfl); (case hT => decide +kernel); (case hk => exact Nat.le_of_ble_eq_true rfl))
                  go_roundw
                  case rel => exact ⟨j + 1, by omega, by go_num, S⟩
                  case measure => first | (simp [intOf]; done) | (simp [intOf]; omega)
                · obtain rfl : j = c.starts.length := by omega
                  go_wp2_with first
                    | go_skip
                    | ((with_reducible refine wpList_skip ?hw ?_); (case hw => with_unfolding_all rfl); simp only [Act.put, List.setIfInBounds_toArray, List.set_cons_succ, List.set_cons_zero])
                    | ((with_reducible refine tot_done ?ht ?_); (case ht => kernel_rfl))
                    | ((with_reducible apply wps_text S); (case hm => kernel_rfl); (case hB => decide +kernel); clear S; intro wz S)
                    | ((with_reducible apply wps_boxa S); (case hx => rfl); clear S; intro bz wz S)
                    | ((with_reducible apply wps_box1 (v := .int _ _) S); (case hx => rfl); (case h1 => rfl); clear S; intro bz wz S)
                    | ((with_reducible apply wps_box1 (v := .bool _) S); (case hx => rfl); (case h1 => rfl); clear S; intro bz wz S)
                    | ((with_reducible apply wps_box1 (v := .slice _ _ _) S); (case hx => rfl); (case h1 => rfl); clear S; intro bz wz S)
                    | ((with_reducible apply wps_box1 (v := .pointer _) S); (case hx => rfl); (case h1 => rfl); clear S; intro bz wz S)
                    | ((with_reducible apply wps_box1 (v := .map _) S); (case hx => rfl); (case h1 => rfl); clear S; intro bz wz S)
                    | ((with_reducible apply wps_box1 (v := .string _) S); (case hx => rfl); (case h1 => rfl); clear S; intro bz wz S)
                    | ((with_reducible apply wps_box1 (v := .func _ _ _) S); (case hx => rfl); (case h1 => rfl); clear S; intro bz wz S)
                    | ((with_reducible apply wps_alloca (E := 26) S); (case hz => exact Tryd.zeroValue26); clear S; intro bz wz S)
                    | ((with_reducible apply wps_alloca (E := 46) S); (case hz => exact Tryd.zeroValue46); clear S; intro bz wz S)
                    | ((with_reducible apply wps_load S 0); (case hx => rfl); (case hi => rfl); (case hT => decide +kernel); (case hu => rfl))
                    | ((with_reducible apply wps_loada (T := 26) (k := 6) S 0); (case hx => rfl); (case hi => rfl); (case hT => decide +kernel); (case hk => exact Nat.le_of_ble_eq_true rfl))
                    | ((with_reducible apply wps_loada (T := 46) (k := 4) S 0); (case hx => rfl); (case hi => rfl); (case hT => decide +kernel); (case hk => exact Nat.le_of_ble_eq_true rfl))
                    | ((with_reducible apply wps_load S 1); (case hx => rfl); (case hi => rfl); (case hT => decide +kernel); (case hu => rfl))
                    | ((with_reducible apply wps_loada (T := 26) (k := 6) S 1); (case hx => rfl); (case hi => rfl); (case hT => decide +kernel); (case hk => exact Nat.le_of_ble_eq_true rfl))
                    | ((with_reducible apply wps_loada (T := 46) (k := 4) S 1); (case hx => rfl); (case hi => rfl); (case hT => decide +kernel); (case hk => exact Nat.le_of_ble_eq_true rfl))
                    | ((with_reducible apply wps_load S 2); (case hx => rfl); (case hi => rfl); (case hT => decide +kernel); (case hu => rfl))
                    | ((with_reducible apply wps_loada (T := 26) (k := 6) S 2); (case hx => rfl); (case hi => rfl); (case hT => decide +kernel); (case hk => exact Nat.le_of_ble_eq_true rfl))
                    | ((with_reducible apply wps_loada (T := 46) (k := 4) S 2); (case hx => rfl); (case hi => rfl); (case hT => decide +kernel); (case hk => exact Nat.le_of_ble_eq_true rfl))
                    | ((with_reducible apply wps_load S 3); (case hx => rfl); (case hi => rfl); (case hT => decide +kernel); (case hu => rfl))
                    | ((with_reducible apply wps_loada (T := 26) (k := 6) S 3); (case hx => rfl); (case hi => rfl); (case hT => decide +kernel); (case hk => exact Nat.le_of_ble_eq_true rfl))
                    | ((with_reducible apply wps_loada (T := 46) (k := 4) S 3); (case hx => rfl); (case hi => rfl); (case hT => decide +kernel); (case hk => exact Nat.le_of_ble_eq_true rfl))
                    | ((with_reducible apply wps_load S 4); (case hx => rfl); (case hi => rfl); (case hT => decide +kernel); (case hu => rfl))
                    | ((with_reducible apply wps_loada (T := 26) (k := 6) S 4); (case hx => rfl); (case hi => rfl); (case hT => decide +kernel); (case hk => exact Nat.le_of_ble_eq_true rfl))
                    | ((with_reducible apply wps_loada (T := 46) (k := 4) S 4); (case hx => rfl); (case hi => rfl); (case hT => decide +kernel); (case hk => exact Nat.le_of_ble_eq_true rfl))
                    | ((with_reducible apply wps_load S 5); (case hx => rfl); (case hi => rfl); (case hT => decide +kernel); (case hu => rfl))
                    | ((with_reducible apply wps_loada (T := 26) (k := 6) S 5); (case hx => rfl); (case hi => rfl); (case hT => decide +kernel); (case hk => exact Nat.le_of_ble_eq_true rfl))
                    | ((with_reducible apply wps_loada (T := 46) (k := 4) S 5); (case hx => rfl); (case hi => rfl); (case hT => decide +kernel); (case hk => exact Nat.le_of_ble_eq_true rfl))
                  refine Calls.mono (HEv.out _ _ (S.get (i := 8) rfl).choose_spec) ?_
                  rintro e wz ⟨adN, cN, rfl, T⟩
                  replace S := S.join T rfl
                  simp only [List.cons_append, List.nil_append] at S
                  clear T
                  go_wp2_with first
                    | go_skip
                    | ((with_reducible refine wpList_skip ?hw ?_); (case hw => with_unfolding_all rfl); simp only [Act.put, List.setIfInBounds_toArray, List.set_cons_succ, List.set_cons_zero])
                    | ((with_reducible refine tot_done ?ht ?_); (case ht => kernel_rfl))
                    | ((with_reducible apply wps_text S); (case hm => kernel_rfl); (case hB => decide +kernel); clear S; intro wz S)
                    | ((with_reducible apply wps_boxa S); (case hx => rfl); clear S; intro bz wz S)
                    | ((with_reducible apply wps_box1 (v := .int _ _) S); (case hx => rfl); (case h1 => rfl); clear S; intro bz wz S)
                    | ((with_reducible apply wps_box1 (v := .bool _) S); (case hx => rfl); (case h1 => rfl); clear S; intro bz wz S)
                    | ((with_reducible apply wps_box1 (v := .slice _ _ _) S); (case hx => rfl); (case h1 => rfl); clear S; intro bz wz S)
                    | ((with_reducible apply wps_box1 (v := .pointer _) S); (case hx => rfl); (case h1 => rfl); clear S; intro bz wz S)
                    | ((with_reducible apply wps_box1 (v := .map _) S); (case hx => rfl); (case h1 => rfl); clear S; intro bz wz S)
                    | ((with_reducible apply wps_box1 (v := .string _) S); (case hx => rfl); (case h1 => rfl); clear S; intro bz wz S)
                    | ((with_reducible apply wps_box1 (v := .func _ _ _) S); (case hx => rfl); (case h1 => rfl); clear S; intro bz wz S)
                    | ((with_reducible apply wps_alloca (E := 26) S); (case hz => exact Tryd.zeroValue26); clear S; intro bz wz S)
                    | ((with_reducible apply wps_alloca (E := 46) S); (case hz => exact Tryd.zeroValue46); clear S; intro bz wz S)
                    | ((with_reducible apply wps_load S 0); (case hx => rfl); (case hi => rfl); (case hT => decide +kernel); (case hu => rfl))
                    | ((with_reducible apply wps_loada (T := 26) (k := 6) S 0); (case hx => rfl); (case hi => rfl); (case hT => decide +kernel); (case hk => exact Nat.le_of_ble_eq_true rfl))
                    | ((with_reducible apply wps_loada (T := 46) (k := 4) S 0); (case hx => rfl); (case hi => rfl); (case hT => decide +kernel); (case hk => exact Nat.le_of_ble_eq_true rfl))
                  refine Calls.mono (HPr.out _ _ (S.get (i := 9) rfl).choose_spec) ?_
                  rintro e wz ⟨adI, cI, rfl, T⟩
                  replace S := S.join T rfl
                  simp only [List.cons_append, List.nil_append] at S
                  clear T
                  have HQ : Hid (∀ v1 v2 w F1 F2, (Sl true Event.cells 7 v1 (evsOf c)).at_ w F1 → (Sl true Event.cells 7 v2 (evsOf c)).at_ w F2 → Calls Tryd.prog 11 #[v1, v2] w fun r w' => r = .returned (.bool true) ∧ Below w.heap.size w w') := fun v1 v2 w F1 F2 h1 h2 => by
                    have := evseq_calls v1 v2 (evsOf c) (evsOf c) w F1 F2 h1 h2 (by omega) (by omega)
                    rwa [decide_eq_true rfl] at this
                  have HSm : Hid (∀ v1 v2 w F1 F2, (Sl true Instr.cells 5 v1 p0).at_ w F1 → (Sl true Instr.cells 5 v2 p0).at_ w F2 → Calls Tryd.prog 18 #[v1, v2] w fun r w' => r = .returned (.bool true) ∧ Below w.heap.size w w') := fun v1 v2 w F1 F2 h1 h2 => by
                    have := same_calls v1 v2 p0 p0 w F1 F2 h1 h2 hpn0 hpn0
                    rwa [decide_eq_true rfl] at this
                  have HSt : Hid ((!ceqs [.int .i64 l0.first.n0, .int .i64 l0.first.n1, .int .i64 l0.first.n2, .int .i64 l0.first.n3] [.int .i64 l0.first.n0, .int .i64 l0.first.n1, .int .i64 l0.first.n2, .int .i64 l0.first.n3]) = false) := by show _ = _; simp [ceqs, ceq]
                  go_wp2_with first
                    | go_skip
                    | ((with_reducible refine wpList_skip ?hw ?_); (case hw => with_unfolding_all rfl); simp only [Act.put, List.setIfInBounds_toArray, List.set_cons_succ, List.set_cons_zero])
                    | ((with_reducible refine tot_done ?ht ?_); (case ht => kernel_rfl))
                    | ((with_reducible apply wps_boxa S); (case hx => rfl); clear S; intro bz wz S)
                    | ((with_reducible apply wps_box1 (v := .int _ _) S); (case hx => rfl); (case h1 => rfl); clear S; intro bz wz S)
                    | ((with_reducible apply wps_box1 (v := .bool _) S); (case hx => rfl); (case h1 => rfl); clear S; intro bz wz S)
                    | ((with_reducible apply wps_box1 (v := .slice _ _ _) S); (case hx => rfl); (case h1 => rfl); clear S; intro bz wz S)
                    | ((with_reducible apply wps_box1 (v := .pointer _) S); (case hx => rfl); (case h1 => rfl); clear S; intro bz wz S)
                    | ((with_reducible apply wps_box1 (v := .map _) S); (case hx => rfl); (case h1 => rfl); clear S; intro bz wz S)
                    | ((with_reducible apply wps_box1 (v := .string _) S); (case hx => rfl); (case h1 => rfl); clear S; intro bz wz S)
                    | ((with_reducible apply wps_box1 (v := .func _ _ _) S); (case hx => rfl); (case h1 => rfl); clear S; intro bz wz S)
                    | ((with_reducible apply wps_alloca (E := 26) S); (case hz => exact Tryd.zeroValue26); clear S; intro bz wz S)
                    | ((with_reducible apply wps_alloca (E := 46) S); (case hz => exact Tryd.zeroValue46); clear S; intro bz wz S)
                    | ((with_reducible apply wps_load S 0); (case hx => rfl); (case hi => rfl); (case hT => decide +kernel); (case hu => rfl))
                    | ((with_reducible apply wps_loada (T := 26) (k := 6) S 0); (case hx => rfl); (case hi => rfl); (case hT => decide +kernel); (case hk => exact Nat.le_of_ble_eq_true rfl))
                    | ((with_reducible apply wps_loada (T := 46) (k := 4) S 0); (case hx => rfl); (case hi => rfl); (case hT => decide +kernel); (case hk => exact Nat.le_of_ble_eq_true rfl))
                  (refine wp_region_w (soft := [0, 1, 2, 3, 4, 5, 6, 7, 8, 9, 10, 11, 12, 13, 14, 15]) S ?hm ?hB ?_); (case hm => kernel_rfl); (case hB => decide +kernel); clear S
                  iterate 16
                    (with_reducible apply softs_cons)
                    (case hw =>
                      (with_reducible apply soft_of); (case hi => rfl)
                      intro T wz S
                      simp only [List.cons_append, List.nil_append] at S
                      go_wp2_with first
                        | go_skip
                        | (go_at_call 11; refine Calls.mono (HQ.out _ _ _ _ _ (S.get (i := 4) rfl).choose_spec (own_sl (sh := true) ecells (S.get (i := 1) rfl).choose_spec)) ?_; rintro e wz ⟨rfl, hE⟩; replace S := S.ext (Keep.of_below hE); clear hE)
                        | (go_at_call 15; refine Calls.mono (HFi.out _ _ (S.get (i := 10) rfl).choose_spec) ?_; rintro e wz ⟨rfl, hE⟩; replace S := S.ext (Keep.of_below hE); clear hE)
                        | ((with_reducible apply wpList_neq_agg (t := 46) (ks := [.int .i64, .int .i64, .int .i64, .int .i64]) (b := _)); (case hx => rfl); (case hy => rfl); (case hl => kernel_rfl); (case ha => kernel_rfl); (case hg => kernel_rfl); (case hfx => rfl); (case hfy => rfl); (case hb => exact HSt.out))
                        | (go_at_call 18; refine Calls.mono (HSm.out _ _ _ _ _ (own_sl (sh := true) incells (S.get (i := 0) rfl).choose_spec) (S.get (i := 2) rfl).choose_spec) ?_; rintro e wz ⟨rfl, hE⟩; replace S := S.ext (Keep.of_below hE); clear hE)
                        | ((with_reducible refine tot_done ?ht ?_); (case ht => kernel_rfl))
                        | ((with_reducible apply wps_boxa S); (case hx => rfl); clear S; intro bz wz S)
                        | ((with_reducible apply wps_box1 (v := .int _ _) S); (case hx => rfl); (case h1 => rfl); clear S; intro bz wz S)
                        | ((with_reducible apply wps_box1 (v := .bool _) S); (case hx => rfl); (case h1 => rfl); clear S; intro bz wz S)
                        | ((with_reducible apply wps_box1 (v := .slice _ _ _) S); (case hx => rfl); (case h1 => rfl); clear S; intro bz wz S)
                        | ((with_reducible apply wps_box1 (v := .pointer _) S); (case hx => rfl); (case h1 => rfl); clear S; intro bz wz S)
                        | ((with_reducible apply wps_box1 (v := .map _) S); (case hx => rfl); (case h1 => rfl); clear S; intro bz wz S)
                        | ((with_reducible apply wps_box1 (v := .string _) S); (case hx => rfl); (case h1 => rfl); clear S; intro bz wz S)
                        | ((with_reducible apply wps_box1 (v := .func _ _ _) S); (case hx => rfl); (case h1 => rfl); clear S; intro bz wz S)
                        | ((with_reducible apply wps_alloca (E := 26) S); (case hz => exact Tryd.zeroValue26); clear S; intro bz wz S)
                        | ((with_reducible apply wps_alloca (E := 46) S); (case hz => exact Tryd.zeroValue46); clear S; intro bz wz S)
                        | ((with_reducible apply wps_load S 0); (case hx => rfl); (case hi => rfl); (case hT => decide +kernel); (case hu => rfl))
                        | ((with_reducible apply wps_loada (T := 26) (k := 6) S 0); (case hx => rfl); (case hi => rfl); (case hT => decide +kernel); (case hk => exact Nat.le_of_ble_eq_true rfl))
                        | ((with_reducible apply wps_loada (T := 46) (k := 4) S 0); (case hx => rfl); (case hi => rfl); (case hT => decide +kernel); (case hk => exact Nat.le_of_ble_eq_true rfl))
                        | ((with_reducible apply wps_load S 1); (case hx => rfl); (case hi => rfl); (case hT => decide +kernel); (case hu => rfl))
                        | ((with_reducible apply wps_loada (T := 26) (k := 6) S 1); (case hx => rfl); (case hi => rfl); (case hT => decide +kernel); (case hk => exact Nat.le_of_ble_eq_true rfl))
                        | ((with_reducible apply wps_loada (T := 46) (k := 4) S 1); (case hx => rfl); (case hi => rfl); (case hT => decide +kernel); (case hk => exact Nat.le_of_ble_eq_true rfl))
                        | ((with_reducible apply wps_load S 2); (case hx => rfl); (case hi => rfl); (case hT => decide +kernel); (case hu => rfl))
                        | ((with_reducible apply wps_loada (T := 26) (k := 6) S 2); (case hx => rfl); (case hi => rfl); (case hT => decide +kernel); (case hk => exact Nat.le_of_ble_eq_true rfl))
                        | ((with_reducible apply wps_loada (T := 46) (k := 4) S 2); (case hx => rfl); (case hi => rfl); (case hT => decide +kernel); (case hk => exact Nat.le_of_ble_eq_true rfl))
                        | ((with_reducible apply wps_load S 3); (case hx => rfl); (case hi => rfl); (case hT => decide +kernel); (case hu => rfl))
                        | ((with_reducible apply wps_loada (T := 26) (k := 6) S 3); (case hx => rfl); (case hi => rfl); (case hT => decide +kernel); (case hk => exact Nat.le_of_ble_eq_true rfl))
                        | ((with_reducible apply wps_loada (T := 46) (k := 4) S 3); (case hx => rfl); (case hi => rfl); (case hT => decide +kernel); (case hk => exact Nat.le_of_ble_eq_true rfl))
                      exact ⟨rfl, S⟩)
                    (case hs => exact ⟨_, rfl, by kernel_rfl⟩)
                  refine softs_nil ?_
                  (with_reducible apply W_done); (case hn => rfl); (case hr => decide +kernel)
                  intro wz S
                  simp only [List.append_nil] at S
                  replace S := (S.room1 0 incells rfl).room1 1 ecells rfl
                  simp only [List.set_cons_succ, List.set_cons_zero] at S
                  go_wp2_with first
                    | go_skip
                    | ((with_reducible refine wpList_skip ?hw ?_); (case hw => with_unfolding_all rfl); simp only [Act.put, List.setIfInBounds_toArray, List.set_cons_succ, List.set_cons_zero])
                    | ((with_reducible refine tot_done ?ht ?_); (case ht => kernel_rfl))
                    | ((with_reducible apply wps_text S); (case hm => kernel_rfl); (case hB => decide +kernel); clear S; intro wz S)
                    | ((with_reducible apply wps_boxa S); (case hx => rfl); clear S; intro bz wz S)
                    | ((with_reducible apply wps_box1 (v := .int _ _) S); (case hx => rfl); (case h1 => rfl); clear S; intro bz wz S)
                    | ((with_reducible apply wps_box1 (v := .bool _) S); (case hx => rfl); (case h1 => rfl); clear S; intro bz wz S)
                    | ((with_reducible apply wps_box1 (v := .slice _ _ _) S); (case hx => rfl); (case h1 => rfl); clear S; intro bz wz S)
                    | ((with_reducible apply wps_box1 (v := .pointer _) S); (case hx => rfl); (case h1 => rfl); clear S; intro bz wz S)
                    | ((with_reducible apply wps_box1 (v := .map _) S); (case hx => rfl); (case h1 => rfl); clear S; intro bz wz S)
                    | ((with_reducible apply wps_box1 (v := .string _) S); (case hx => rfl); (case h1 => rfl); clear S; intro bz wz S)
                    | ((with_reducible apply wps_box1 (v := .func _ _ _) S); (case hx => rfl); (case h1 => rfl); clear S; intro bz wz S)
                    | ((with_reducible apply wps_alloca (E := 26) S); (case hz => exact Tryd.zeroValue26); clear S; intro bz wz S)
                    | ((with_reducible apply wps_alloca (E := 46) S); (case hz => exact Tryd.zeroValue46); clear S; intro bz wz S)
                    | ((with_reducible apply wps_load S 0); (case hx => rfl); (case hi => rfl); (case hT => decide +kernel); (case hu => rfl))
                    | ((with_reducible apply wps_loada (T := 26) (k := 6) S 0); (case hx => rfl); (case hi => rfl); (case hT => decide +kernel); (case hk => exact Nat.le_of_ble_eq_true rfl))
                    | ((with_reducible apply wps_loada (T := 46) (k := 4) S 0); (case hx => rfl); (case hi => rfl); (case hT => decide +kernel); (case hk => exact Nat.le_of_ble_eq_true rfl))
                    | ((with_reducible apply wps_load S 1); (case hx => rfl); (case hi => rfl); (case hT => decide +kernel); (case hu => rfl))
                    | ((with_reducible apply wps_loada (T := 26) (k := 6) S 1); (case hx => rfl); (case hi => rfl); (case hT => decide +kernel); (case hk => exact Nat.le_of_ble_eq_true rfl))
                    | ((with_reducible apply wps_loada (T := 46) (k := 4) S 1); (case hx => rfl); (case hi => rfl); (case hT => decide +kernel); (case hk => exact Nat.le_of_ble_eq_true rfl))
                  go_loopw [19] (fun i wr => IdxRel [Room 5 [.slice adI p0.length cI], Room 7 [.slice adN c.starts.length cN], Sl true Instr.cells 5 (.slice adP p0.length cP0) p0, Blk false bf #[.int .i64 l0.first.n0, .int .i64 l0.first.n1, .int .i64 l0.first.n2, .int .i64 l0.first.n3] 46, Sl true Event.cells 7 (.slice ad1 c.starts.length c1) (evsOf c), Blk false bm #[.slice (some ⟨RG, 0, none⟩) c.programs.length cg, .slice azl c.lps.length czl, .slice azs c.starts.length czs, .int .i64 c.fin, .int .i64 c.fuel, .int .i64 c.fan] 26, Own 44 hcell 1 (.slice (some ⟨RG, 0, none⟩) c.programs.length cg) gs, Room 5 (gs.map Hd.val), Room 5 [.slice azl c.lps.length czl], Room 4 [.slice azs c.starts.length czs], ModA true 77 R vs2 hs2 c, Tab] c.starts.length w i wr) (fun i _ => c.starts.length - (intOf i).toNat)
                  case atStart => exact ⟨0, Nat.zero_le _, rfl, S⟩
                  case round =>
                    clear S
                    obtain ⟨j, hj, rfl, S⟩ := hrel
                    by_cases hlt : j < c.starts.length
                    · obtain ⟨RJ, rfl⟩ : ∃ RJ, adN = some ⟨RJ, 0, none⟩ := by
                        obtain ⟨ad, n, c', e, h⟩ := S.roomForm (q := 0) 1 rfl rfl
                        cases e
                        exact h (by omega)
                      have hlt2 : (j : Int) < c.starts.length := by omega
                      go_wp2_with first
                        | go_skip
                        | ((with_reducible refine wpList_skip ?hw ?_); (case hw => with_unfolding_all rfl); simp only [Act.put, List.setIfInBounds_toArray, List.set_cons_succ, List.set_cons_zero])
                        | ((with_reducible apply wps_store_room S 1 (j := j) (q := 0) (us := [.int .i64 0, .int .i64 0, .int .i64 0, .int .i64 0, .int .i64 0, .int .i64 0, .int .i64 0])); (case hx => rfl); (case hi => rfl); (case hv => rfl); (case hn => omega); (case hj => omega); (case hy => rfl); (case hT => decide +kernel); (case hm => rfl); (case h1 => rfl); clear S; intro wz S)
                        | ((with_reducible refine tot_done ?ht ?_); (case ht => kernel_rfl))
                        | ((with_reducible apply wps_text S); (case hm => kernel_rfl); (case hB => decide +kernel); clear S; intro wz S)
                        | ((with_reducible apply wps_boxa S); (case hx => rfl); clear S; intro bz wz S)
                        | ((with_reducible apply wps_box1 (v := .int _ _) S); (case hx => rfl); (case h1 => rfl); clear S; intro bz wz S)
                        | ((with_reducible apply wps_box1 (v := .bool _) S); (case hx => rfl); (case h1 => rfl); clear S; intro bz wz S)
                        | ((with_reducible apply wps_box1 (v := .slice _ _ _) S); (case hx => rfl); (case h1 => rfl); clear S; intro bz wz S)
                        | ((with_reducible apply wps_box1 (v := .pointer _) S); (case hx => rfl); (case h1 => rfl); clear S; intro bz wz S)
                        | ((with_reducible apply wps_box1 (v := .map _) S); (case hx => rfl); (case h1 => rfl); clear S; intro bz wz S)
                        | ((with_reducible apply wps_box1 (v := .string _) S); (case hx => rfl); (case h1 => rfl); clear S; intro bz wz S)
                        | ((with_reducible apply wps_box1 (v := .func _ _ _) S); (case hx => rfl); (case h1 => rfl); clear S; intro bz wz S)
                        | ((with_reducible apply wps_alloca (E := 26) S); (case hz => exact Tryd.zeroValue26); clear S; intro bz wz S)
                        | ((with_reducible apply wps_alloca (E := 46) S); (case hz => exact Tryd.zeroValue46); clear S; intro bz wz S)
                        | ((with_reducible apply wps_load S 0); (case hx => rfl); (case hi => rfl); (case hT => decide +kernel); (case hu => rfl))
                        | ((with_reducible apply wps_loada (T := 26) (k := 6) S 0); (case hx => rfl); (case hi => rfl); (case hT => decide +kernel); (case hk => exact Nat.le_of_ble_eq_true rfl))
                        | ((with_reducible apply wps_loada (T := 46) (k := 4) S 0); (case hx => rfl); (case hi => rfl); (case hT => decide +kernel); (case hk => exact Nat.le_of_ble_eq_true rfl))
                        | ((with_reducible apply wps_load S 1); (case hx => rfl); (case hi => rfl); (case hT => decide +kernel); (case hu => rfl))
                        | ((with_reducible apply wps_loada (T := 26) (k := 6) S 1); (case hx => rfl); (case hi => rfl); (case hT => decide +kernel); (case hk => exact Nat.le_of_ble_eq_true rfl))
                        | ((with_reducible apply wps_loada (T := 46) (k := 4) S 1); (case hx => rfl); (case hi => rfl); (case hT => decide +kernel); (case hk => exact Nat.le_of_ble_eq_true rfl))
                      go_roundw
                      case rel => exact ⟨j + 1, by omega, by go_num, S⟩
                      case measure => first | (simp [intOf]; done) | (simp [intOf]; omega)
                    · obtain rfl : j = c.starts.length := by omega
                      go_wp2_with first
                        | go_skip
                        | ((with_reducible refine wpList_skip ?hw ?_); (case hw => with_unfolding_all rfl); simp only [Act.put, List.setIfInBounds_toArray, List.set_cons_succ, List.set_cons_zero])
                        | ((with_reducible refine tot_done ?ht ?_); (case ht => kernel_rfl))
                        | ((with_reducible apply wps_text S); (case hm => kernel_rfl); (case hB => decide +kernel); clear S; intro wz S)
                        | ((with_reducible apply wps_boxa S); (case hx => rfl); clear S; intro bz wz S)
                        | ((with_reducible apply wps_box1 (v := .int _ _) S); (case hx => rfl); (case h1 => rfl); clear S; intro bz wz S)
                        | ((with_reducible apply wps_box1 (v := .bool _) S); (case hx => rfl); (case h1 => rfl); clear S; intro bz wz S)
                        | ((with_reducible apply wps_box1 (v := .slice _ _ _) S); (case hx => rfl); (case h1 => rfl); clear S; intro bz wz S)
                        | ((with_reducible apply wps_box1 (v := .pointer _) S); (case hx => rfl); (case h1 => rfl); clear S; intro bz wz S)
                        | ((with_reducible apply wps_box1 (v := .map _) S); (case hx => rfl); (case h1 => rfl); clear S; intro bz wz S)
                        | ((with_reducible apply wps_box1 (v := .string _) S); (case hx => rfl); (case h1 => rfl); clear S; intro bz wz S)
                        | ((with_reducible apply wps_box1 (v := .func _ _ _) S); (case hx => rfl); (case h1 => rfl); clear S; intro bz wz S)
                        | ((with_reducible apply wps_alloca (E := 26) S); (case hz => exact Tryd.zeroValue26); clear S; intro bz wz S)
                        | ((with_reducible apply wps_alloca (E := 46) S); (case hz => exact Tryd.zeroValue46); clear S; intro bz wz S)
                        | ((with_reducible apply wps_load S 0); (case hx => rfl); (case hi => rfl); (case hT => decide +kernel); (case hu => rfl))
                        | ((with_reducible apply wps_loada (T := 26) (k := 6) S 0); (case hx => rfl); (case hi => rfl); (case hT => decide +kernel); (case hk => exact Nat.le_of_ble_eq_true rfl))
                        | ((with_reducible apply wps_loada (T := 46) (k := 4) S 0); (case hx => rfl); (case hi => rfl); (case hT => decide +kernel); (case hk => exact Nat.le_of_ble_eq_true rfl))
                      go_loopw [20] (fun i wr => IdxRel [Room 5 [.slice adI p0.length cI], Room 7 [.slice adN c.starts.length cN], Sl true Instr.cells 5 (.slice adP p0.length cP0) p0, Blk false bf #[.int .i64 l0.first.n0, .int .i64 l0.first.n1, .int .i64 l0.first.n2, .int .i64 l0.first.n3] 46, Sl true Event.cells 7 (.slice ad1 c.starts.length c1) (evsOf c), Blk false bm #[.slice (some ⟨RG, 0, none⟩) c.programs.length cg, .slice azl c.lps.length czl, .slice azs c.starts.length czs, .int .i64 c.fin, .int .i64 c.fuel, .int .i64 c.fan] 26, Own 44 hcell 1 (.slice (some ⟨RG, 0, none⟩) c.programs.length cg) gs, Room 5 (gs.map Hd.val), Room 5 [.slice azl c.lps.length czl], Room 4 [.slice azs c.starts.length czs], ModA true 77 R vs2 hs2 c, Tab] p0.length w i wr) (fun i _ => p0.length - (intOf i).toNat)
                      case atStart => exact ⟨0, Nat.zero_le _, rfl, S⟩
                      case round =>
                        clear S
                        obtain ⟨j, hj, rfl, S⟩ := hrel
                        by_cases hlt : j < p0.length
                        · obtain ⟨RJ, rfl⟩ : ∃ RJ, adI = some ⟨RJ, 0, none⟩ := by
                            obtain ⟨ad, n, c', e, h⟩ := S.roomForm (q := 0) 0 rfl rfl
                            cases e
                            exact h (by omega)
                          have hlt2 : (j : Int) < p0.length := by omega
                          go_wp2_with first
                            | go_skip
                            | ((with_reducible refine wpList_skip ?hw ?_); (case hw => with_unfolding_all rfl); simp only [Act.put, List.setIfInBounds_toArray, List.set_cons_succ, List.set_cons_zero])
                            | ((with_reducible apply wps_store_room S 0 (j := j) (q := 0) (us := [.int .i64 0, .int .i64 0, .int .i64 0, .int .i64 0, .int .i64 0])); (case hx => rfl); (case hi => rfl); (case hv => rfl); (case hn => omega); (case hj => omega); (case hy => rfl); (case hT => decide +kernel); (case hm => rfl); (case h1 => rfl); clear S; intro wz S)
                            | ((with_reducible refine tot_done ?ht ?_); (case ht => kernel_rfl))
                            | ((with_reducible apply wps_text S); (case hm => kernel_rfl); (case hB => decide +kernel); clear S; intro wz S)
                            | ((with_reducible apply wps_boxa S); (case hx => rfl); clear S; intro bz wz S)
                            | ((with_reducible apply wps_box1 (v := .int _ _) S); (case hx => rfl); (case h1 => rfl); clear S; intro bz wz S)
                            | ((with_reducible apply wps_box1 (v := .bool _) S); (case hx => rfl); (case h1 => rfl); clear S; intro bz wz S)
                            | ((with_reducible apply wps_box1 (v := .slice _ _ _) S); (case hx => rfl); (case h1 => rfl); clear S; intro bz wz S)
                            | ((with_reducible apply wps_box1 (v := .pointer _) S); (case hx => rfl); (case h1 => rfl); clear S; intro bz wz S)
                            | ((with_reducible apply wps_box1 (v := .map _) S); (case hx => rfl); (case h1 => rfl); clear S; intro bz wz S)
                            | ((with_reducible apply wps_box1 (v := .string _) S); (case hx => rfl); (case h1 => rfl); clear S; intro bz wz S)
                            | ((with_reducible apply wps_box1 (v := .func _ _ _) S); (case hx => rfl); (case h1 => rfl); clear S; intro bz wz S)
                            | ((with_reducible apply wps_alloca (E := 26) S); (case hz => exact Tryd.zeroValue26); clear S; intro bz wz S)
                            | ((with_reducible apply wps_alloca (E := 46) S); (case hz => exact Tryd.zeroValue46); clear S; intro bz wz S)
                            | ((with_reducible apply wps_load S 0); (case hx => rfl); (case hi => rfl); (case hT => decide +kernel); (case hu => rfl))
                            | ((with_reducible apply wps_loada (T := 26) (k := 6) S 0); (case hx => rfl); (case hi => rfl); (case hT => decide +kernel); (case hk => exact Nat.le_of_ble_eq_true rfl))
                            | ((with_reducible apply wps_loada (T := 46) (k := 4) S 0); (case hx => rfl); (case hi => rfl); (case hT => decide +kernel); (case hk => exact Nat.le_of_ble_eq_true rfl))
                          go_roundw
                          case rel => exact ⟨j + 1, by omega, by go_num, S⟩
                          case measure => first | (simp [intOf]; done) | (simp [intOf]; omega)
                        · obtain rfl : j = p0.length := by omega
                          go_wp2_with first
                            | go_skip
                            | ((with_reducible refine wpList_skip ?hw ?_); (case hw => with_unfolding_all rfl); simp only [Act.put, List.setIfInBounds_toArray, List.set_cons_succ, List.set_cons_zero])
                            | ((with_reducible refine tot_done ?ht ?_); (case ht => kernel_rfl))
                            | ((with_reducible apply wps_text S); (case hm => kernel_rfl); (case hB => decide +kernel); clear S; intro wz S)
                            | ((with_reducible apply wps_boxa S); (case hx => rfl); clear S; intro bz wz S)
                            | ((with_reducible apply wps_box1 (v := .int _ _) S); (case hx => rfl); (case h1 => rfl); clear S; intro bz wz S)
                            | ((with_reducible apply wps_box1 (v := .bool _) S); (case hx => rfl); (case h1 => rfl); clear S; intro bz wz S)
                            | ((with_reducible apply wps_box1 (v := .slice _ _ _) S); (case hx => rfl); (case h1 => rfl); clear S; intro bz wz S)
                            | ((with_reducible apply wps_box1 (v := .pointer _) S); (case hx => rfl); (case h1 => rfl); clear S; intro bz wz S)
                            | ((with_reducible apply wps_box1 (v := .map _) S); (case hx => rfl); (case h1 => rfl); clear S; intro bz wz S)
                            | ((with_reducible apply wps_box1 (v := .string _) S); (case hx => rfl); (case h1 => rfl); clear S; intro bz wz S)
                            | ((with_reducible apply wps_box1 (v := .func _ _ _) S); (case hx => rfl); (case h1 => rfl); clear S; intro bz wz S)
                            | ((with_reducible apply wps_alloca (E := 26) S); (case hz => exact Tryd.zeroValue26); clear S; intro bz wz S)
                            | ((with_reducible apply wps_alloca (E := 46) S); (case hz => exact Tryd.zeroValue46); clear S; intro bz wz S)
                            | ((with_reducible apply wps_load S 0); (case hx => rfl); (case hi => rfl); (case hT => decide +kernel); (case hu => rfl))
                            | ((with_reducible apply wps_loada (T := 26) (k := 6) S 0); (case hx => rfl); (case hi => rfl); (case hT => decide +kernel); (case hk => exact Nat.le_of_ble_eq_true rfl))
                            | ((with_reducible apply wps_loada (T := 46) (k := 4) S 0); (case hx => rfl); (case hi => rfl); (case hT => decide +kernel); (case hk => exact Nat.le_of_ble_eq_true rfl))
                            | ((with_reducible apply wps_load S 1); (case hx => rfl); (case hi => rfl); (case hT => decide +kernel); (case hu => rfl))
                            | ((with_reducible apply wps_loada (T := 26) (k := 6) S 1); (case hx => rfl); (case hi => rfl); (case hT => decide +kernel); (case hk => exact Nat.le_of_ble_eq_true rfl))
                            | ((with_reducible apply wps_loada (T := 46) (k := 4) S 1); (case hx => rfl); (case hi => rfl); (case hT => decide +kernel); (case hk => exact Nat.le_of_ble_eq_true rfl))
                            | ((with_reducible apply wps_load S 2); (case hx => rfl); (case hi => rfl); (case hT => decide +kernel); (case hu => rfl))
                            | ((with_reducible apply wps_loada (T := 26) (k := 6) S 2); (case hx => rfl); (case hi => rfl); (case hT => decide +kernel); (case hk => exact Nat.le_of_ble_eq_true rfl))
                            | ((with_reducible apply wps_loada (T := 46) (k := 4) S 2); (case hx => rfl); (case hi => rfl); (case hT => decide +kernel); (case hk => exact Nat.le_of_ble_eq_true rfl))
                            | ((with_reducible apply wps_load S 3); (case hx => rfl); (case hi => rfl); (case hT => decide +kernel); (case hu => rfl))
                            | ((with_reducible apply wps_loada (T := 26) (k := 6) S 3); (case hx => rfl); (case hi => rfl); (case hT => decide +kernel); (case hk => exact Nat.le_of_ble_eq_true rfl))
                            | ((with_reducible apply wps_loada (T := 46) (k := 4) S 3); (case hx => rfl); (case hi => rfl); (case hT => decide +kernel); (case hk => exact Nat.le_of_ble_eq_true rfl))
                            | ((with_reducible apply wps_load S 4); (case hx => rfl); (case hi => rfl); (case hT => decide +kernel); (case hu => rfl))
                            | ((with_reducible apply wps_loada (T := 26) (k := 6) S 4); (case hx => rfl); (case hi => rfl); (case hT => decide +kernel); (case hk => exact Nat.le_of_ble_eq_true rfl))
                            | ((with_reducible apply wps_loada (T := 46) (k := 4) S 4); (case hx => rfl); (case hi => rfl); (case hT => decide +kernel); (case hk => exact Nat.le_of_ble_eq_true rfl))
                            | ((with_reducible apply wps_load S 5); (case hx => rfl); (case hi => rfl); (case hT => decide +kernel); (case hu => rfl))
                            | ((with_reducible apply wps_loada (T := 26) (k := 6) S 5); (case hx => rfl); (case hi => rfl); (case hT => decide +kernel); (case hk => exact Nat.le_of_ble_eq_true rfl))
                            | ((with_reducible apply wps_loada (T := 46) (k := 4) S 5); (case hx => rfl); (case hi => rfl); (case hT => decide +kernel); (case hk => exact Nat.le_of_ble_eq_true rfl))
                            | ((with_reducible apply wps_load S 6); (case hx => rfl); (case hi => rfl); (case hT => decide +kernel); (case hu => rfl))
                            | ((with_reducible apply wps_loada (T := 26) (k := 6) S 6); (case hx => rfl); (case hi => rfl); (case hT => decide +kernel); (case hk => exact Nat.le_of_ble_eq_true rfl))
                            | ((with_reducible apply wps_loada (T := 46) (k := 4) S 6); (case hx => rfl); (case hi => rfl); (case hT => decide +kernel); (case hk => exact Nat.le_of_ble_eq_true rfl))
                          refine Calls.mono (HEv.out _ _ (S.get (i := 10) rfl).choose_spec) ?_
                          rintro e wz ⟨adM, cM, rfl, T⟩
                          replace S := (S.join T rfl).freeze true 0 ecells rfl
                          simp only [List.cons_append, List.nil_append, List.set_cons_zero] at S
                          clear T
                          go_wp2_with first
                            | go_skip
                            | ((with_reducible refine wpList_skip ?hw ?_); (case hw => with_unfolding_all rfl); simp only [Act.put, List.setIfInBounds_toArray, List.set_cons_succ, List.set_cons_zero])
                            | (go_at_call 11; refine Calls.mono (HQ.out _ _ _ _ _ (S.get (i := 5) rfl).choose_spec (S.get (i := 0) rfl).choose_spec) ?_; rintro e wz ⟨rfl, hE⟩; replace S := S.ext (Keep.of_below hE); clear hE)
                            | ((with_reducible refine tot_done ?ht ?_); (case ht => kernel_rfl))
                            | ((with_reducible apply wps_text S); (case hm => kernel_rfl); (case hB => decide +kernel); clear S; intro wz S)
                            | ((with_reducible apply wps_boxa S); (case hx => rfl); clear S; intro bz wz S)
                            | ((with_reducible apply wps_box1 (v := .int _ _) S); (case hx => rfl); (case h1 => rfl); clear S; intro bz wz S)
                            | ((with_reducible apply wps_box1 (v := .bool _) S); (case hx => rfl); (case h1 => rfl); clear S; intro bz wz S)
                            | ((with_reducible apply wps_box1 (v := .slice _ _ _) S); (case hx => rfl); (case h1 => rfl); clear S; intro bz wz S)
                            | ((with_reducible apply wps_box1 (v := .pointer _) S); (case hx => rfl); (case h1 => rfl); clear S; intro bz wz S)
                            | ((with_reducible apply wps_box1 (v := .map _) S); (case hx => rfl); (case h1 => rfl); clear S; intro bz wz S)
                            | ((with_reducible apply wps_box1 (v := .string _) S); (case hx => rfl); (case h1 => rfl); clear S; intro bz wz S)
                            | ((with_reducible apply wps_box1 (v := .func _ _ _) S); (case hx => rfl); (case h1 => rfl); clear S; intro bz wz S)
                            | ((with_reducible apply wps_alloca (E := 26) S); (case hz => exact Tryd.zeroValue26); clear S; intro bz wz S)
                            | ((with_reducible apply wps_alloca (E := 46) S); (case hz => exact Tryd.zeroValue46); clear S; intro bz wz S)
                            | ((with_reducible apply wps_load S 0); (case hx => rfl); (case hi => rfl); (case hT => decide +kernel); (case hu => rfl))
                            | ((with_reducible apply wps_loada (T := 26) (k := 6) S 0); (case hx => rfl); (case hi => rfl); (case hT => decide +kernel); (case hk => exact Nat.le_of_ble_eq_true rfl))
                            | ((with_reducible apply wps_loada (T := 46) (k := 4) S 0); (case hx => rfl); (case hi => rfl); (case hT => decide +kernel); (case hk => exact Nat.le_of_ble_eq_true rfl))
                          refine Calls.mono (HPr.out _ _ (S.get (i := 11) rfl).choose_spec) ?_
                          rintro e wz ⟨adO, cO, rfl, T⟩
                          replace S := (S.join T rfl).freeze true 0 incells rfl
                          simp only [List.cons_append, List.nil_append, List.set_cons_zero] at S
                          clear T
                          go_wp2_with first
                            | go_skip
                            | ((with_reducible refine wpList_skip ?hw ?_); (case hw => with_unfolding_all rfl); simp only [Act.put, List.setIfInBounds_toArray, List.set_cons_succ, List.set_cons_zero])
                            | (go_at_call 18; refine Calls.mono (HSm.out _ _ _ _ _ (S.get (i := 0) rfl).choose_spec (S.get (i := 4) rfl).choose_spec) ?_; rintro e wz ⟨rfl, hE⟩; replace S := S.ext (Keep.of_below hE); clear hE)
                            | (go_at_call 9; refine Calls.mono (awake_calls _ _ (S.get (i := 13) rfl).choose_spec) ?_; rintro e wz ⟨rfl, hE⟩; replace S := S.ext (Keep.of_below hE); clear hE)
                            | ((with_reducible refine tot_done ?ht ?_); (case ht => kernel_rfl))
                            | ((with_reducible apply wps_text S); (case hm => kernel_rfl); (case hB => decide +kernel); clear S; intro wz S)
                            | ((with_reducible apply wps_boxa S); (case hx => rfl); clear S; intro bz wz S)
                            | ((with_reducible apply wps_box1 (v := .int _ _) S); (case hx => rfl); (case h1 => rfl); clear S; intro bz wz S)
                            | ((with_reducible apply wps_box1 (v := .bool _) S); (case hx => rfl); (case h1 => rfl); clear S; intro bz wz S)
                            | ((with_reducible apply wps_box1 (v := .slice _ _ _) S); (case hx => rfl); (case h1 => rfl); clear S; intro bz wz S)
                            | ((with_reducible apply wps_box1 (v := .pointer _) S); (case hx => rfl); (case h1 => rfl); clear S; intro bz wz S)
                            | ((with_reducible apply wps_box1 (v := .map _) S); (case hx => rfl); (case h1 => rfl); clear S; intro bz wz S)
                            | ((with_reducible apply wps_box1 (v := .string _) S); (case hx => rfl); (case h1 => rfl); clear S; intro bz wz S)
                            | ((with_reducible apply wps_box1 (v := .func _ _ _) S); (case hx => rfl); (case h1 => rfl); clear S; intro bz wz S)
                            | ((with_reducible apply wps_alloca (E := 26) S); (case hz => exact Tryd.zeroValue26); clear S; intro bz wz S)
                            | ((with_reducible apply wps_alloca (E := 46) S); (case hz => exact Tryd.zeroValue46); clear S; intro bz wz S)
                            | ((with_reducible apply wps_load S 0); (case hx => rfl); (case hi => rfl); (case hT => decide +kernel); (case hu => rfl))
                            | ((with_reducible apply wps_loada (T := 26) (k := 6) S 0); (case hx => rfl); (case hi => rfl); (case hT => decide +kernel); (case hk => exact Nat.le_of_ble_eq_true rfl))
                            | ((with_reducible apply wps_loada (T := 46) (k := 4) S 0); (case hx => rfl); (case hi => rfl); (case hT => decide +kernel); (case hk => exact Nat.le_of_ble_eq_true rfl))
                          go_ret
                          exact ⟨by simp, S.below⟩
end Go.Proofs.YtejdfgonkfgnfaaDoor

import Derived.Test.YtfiiaechippboaaDoorR21
/- The walk of the law's Plain: a configuration as the reference has it. -/
namespace Go.Proofs.YtfiiaechippboaaDoor
open Go Go.RowKit Reg Mem

set_option maxRecDepth 100000 in
theorem elem_RHd : Elem Tryd.prog 33 86 1 24 := ⟨_, .slice none 0 0, Tryd.underlying33, rfl, by kernel_rfl, by kernel_rfl, by kernel_rfl, by kernel_rfl, by omega⟩
set_option maxRecDepth 100000 in
theorem elem_RPl : Elem Tryd.prog 34 87 5 40 := ⟨_, .agg #[.int .i64 0, .int .i64 0, .int .i64 0, .int .i64 0, .int .i64 0], Tryd.underlying34, rfl, by kernel_rfl, by kernel_rfl, by kernel_rfl, by kernel_rfl, by omega⟩
set_option maxRecDepth 100000 in
theorem elem_RSta : Elem Tryd.prog 35 97 4 32 := ⟨_, .agg #[.int .i64 0, .int .i64 0, .int .i64 0, .int .i64 0], Tryd.underlying35, rfl, by kernel_rfl, by kernel_rfl, by kernel_rfl, by kernel_rfl, by omega⟩
def PcRel1 (bx bo br : Nat) (vP vL vS : Value) (hs : List Value) (c : Cfg) (w : World) (i : Value) (wr : World) : Prop :=
  ∃ (j : Nat) (gs : List Hd) (ad : Option Addr) (cp : Nat), j ≤ c.programs.length ∧ i = .int .i64 j ∧ gs.length = j ∧
    St (fun _ => False) w wr [Blk false bx #[vP, vL, vS, .int .i64 c.fin, .int .i64 c.fuel, .int .i64 c.fan] 26, Sls true Instr.cells 5 hs c.programs, Sl true vcell 1 vP hs,
      Blk false bo #[.slice ad j cp, .slice none 0 0, .slice none 0 0, .int .i64 c.fin, .int .i64 c.fuel, .int .i64 c.fan] 37, Own 86 hcell 1 (.slice ad j cp) gs, Ows 123 Instr.cells 5 (gs.map Hd.val) (c.programs.take j), Blk false br #[.slice none 0 0, .slice none 0 0, .slice none 0 0, .int .i64 0, .int .i64 0, .int .i64 0] 37, Sl true Place.cells 5 vL c.lps, Sl true Start.cells 4 vS c.starts]
def PcRel2 (bx bo br : Nat) (vP vL vS vH : Value) (gs : List Hd) (c : Cfg) (w : World) (i : Value) (wr : World) : Prop :=
  ∃ (j : Nat) (ad : Option Addr) (cp : Nat), j ≤ c.lps.length ∧ i = .int .i64 j ∧
    St (fun _ => False) w wr [Blk false bo #[vH, .slice ad j cp, .slice none 0 0, .int .i64 c.fin, .int .i64 c.fuel, .int .i64 c.fan] 37, Own 87 Place.cells 5 (.slice ad j cp) (c.lps.take j), Blk false bx #[vP, vL, vS, .int .i64 c.fin, .int .i64 c.fuel, .int .i64 c.fan] 26, Sl true Place.cells 5 vL c.lps, Sl true Start.cells 4 vS c.starts,
      Own 86 hcell 1 vH gs, Ows 123 Instr.cells 5 (gs.map Hd.val) c.programs, Blk false br #[.slice none 0 0, .slice none 0 0, .slice none 0 0, .int .i64 0, .int .i64 0, .int .i64 0] 37]
def PcRel3 (bx bo br : Nat) (vP vL vS vH vR : Value) (gs : List Hd) (c : Cfg) (w : World) (i : Value) (wr : World) : Prop :=
  ∃ (j : Nat) (ad : Option Addr) (cp : Nat), j ≤ c.starts.length ∧ i = .int .i64 j ∧
    St (fun _ => False) w wr [Blk false bo #[vH, vR, .slice ad j cp, .int .i64 c.fin, .int .i64 c.fuel, .int .i64 c.fan] 37, Own 97 Start.cells 4 (.slice ad j cp) (c.starts.take j), Blk false bx #[vP, vL, vS, .int .i64 c.fin, .int .i64 c.fuel, .int .i64 c.fan] 26, Sl true Start.cells 4 vS c.starts,
      Own 87 Place.cells 5 vR c.lps, Own 86 hcell 1 vH gs, Ows 123 Instr.cells 5 (gs.map Hd.val) c.programs, Blk false br #[.slice none 0 0, .slice none 0 0, .slice none 0 0, .int .i64 0, .int .i64 0, .int .i64 0] 37]
/-- What Plain leaves. -/
def CPlainPost (c : Cfg) (w : World) (e : Ending) (w' : World) : Prop :=
  ∃ (gs : List Hd) (vH vR vT : Value), e = .returned (.agg #[vH, vR, vT, .int .i64 c.fin, .int .i64 c.fuel, .int .i64 c.fan]) ∧ gs.length = c.programs.length ∧
    St (fun _ => False) w w' [Own 86 hcell 1 vH gs, Ows 123 Instr.cells 5 (gs.map Hd.val) c.programs, Own 87 Place.cells 5 vR c.lps, Own 97 Start.cells 4 vT c.starts]
/-- Lengths that a machine can hold. -/
structure MidW (c : Cfg) : Prop where
  p : c.programs.length * 24 ≤ 140737488351232
  l : c.lps.length * 40 ≤ 140737488351232
  s : c.starts.length * 32 ≤ 140737488351232
set_option maxRecDepth 100000 in
set_option maxHeartbeats 16000000 in
theorem cplainW_calls (vs hs : List Value) (c : Cfg) (w : World) (F : Nat → Prop) (h : (CfgA true vs hs c).at_ w F) (hm : MidW c) (hm2 : ∀ p ∈ c.programs, p.length * 40 ≤ 140737488351232) : Calls Tryd.prog 24 #[.agg vs.toArray] w (CPlainPost c w) := by
  have S : St (fun _ => False) w w [CfgA true vs hs c] := (St.init _ w).share rfl rfl h
  obtain ⟨aP, cP, aL, cL, aS, cS, rfl, hlen, S⟩ := S.cfg 0 rfl
  replace S := ((S.pick [0, 1, 2, 3] rfl).owsNil 123 Instr.cells 5).nil 86 hcell 1
  simp only [pick, nth] at S
  clear h
  have hp1 := hm.p
  have hp2 := hm.l
  have hp3 := hm.s
  clear hm
  go_enter Tryd.func24, Tryd.ntmps24
  go_upto_region 1 with first
    | ((with_reducible apply wps_boxa (E := 26) S); (case hx => rfl); clear S; intro bx wz S)
    | ((with_reducible apply wps_alloca (E := 37) S); (case hz => exact Tryd.zeroValue37); clear S; intro br wz S)
  go_wp2_with first
    | ((with_reducible apply wps_alloca (E := 37) S); (case hz => exact Tryd.zeroValue37); clear S; intro bo wz S)
    | ((with_reducible apply wps_storea (T := 37) S 0 (vs := [.slice none 0 0, .slice none 0 0, .slice none 0 0, .int .i64 c.fin, .int .i64 c.fuel, .int .i64 c.fan]) (m := 6)); (case hx => rfl); (case hy => rfl); (case hi => rfl); (case hT => decide +kernel); (case hm => rfl); (case h1 => rfl); (case hn => exact Nat.le_of_ble_eq_true rfl); clear S; intro wz S; simp only [List.set_cons_zero, List.set_cons_succ, setAll, List.setIfInBounds_toArray] at S)
    | ((with_reducible refine tot_done ?ht ?_); (case ht => kernel_rfl))
    | ((with_reducible apply wps_text S); (case hm => kernel_rfl); (case hB => decide +kernel); clear S; intro wz S)
    | ((with_reducible apply wps_boxa S); (case hx => rfl); clear S; intro bz wz S)
    | ((with_reducible apply wps_box1 (v := .int _ _) S); (case hx => rfl); (case h1 => rfl); clear S; intro bz wz S)
    | ((with_reducible apply wps_box1 (v := .bool _) S); (case hx => rfl); (case h1 => rfl); clear S; intro bz wz S)
    | ((with_reducible apply wps_box1 (v := .slice _ _ _) S); (case hx => rfl); (case h1 => rfl); clear S; intro bz wz S)
    | ((with_reducible apply wps_box1 (v := .pointer _) S); (case hx => rfl); (case h1 => rfl); clear S; intro bz wz S)
    | ((with_reducible apply wps_box1 (v := .map _) S); (case hx => rfl); (case h1 => rfl); clear S; intro bz wz S)
    | ((with_reducible apply wps_box1 (v := .string _) S); (case hx => rfl); (case h1 => rfl); clear S; intro bz wz S)
    | ((with_reducible apply wps_box1 (v := .func _ _ _) S); (case hx => rfl); (case h1 => rfl); clear S; intro bz wz S)
    | ((with_reducible apply wps_alloca (E := 37) S); (case hz => exact Tryd.zeroValue37); clear S; intro bz wz S)
    | ((with_reducible apply wps_alloca (E := 96) S); (case hz => exact Tryd.zeroValue96); clear S; intro bz wz S)
    | ((with_reducible apply wps_load S 0); (case hx => rfl); (case hi => rfl); (case hT => decide +kernel); (case hu => rfl))
    | ((with_reducible apply wps_loada (T := 28) (k := 4) S 0); (case hx => rfl); (case hi => rfl); (case hT => decide +kernel); (case hk => exact Nat.le_of_ble_eq_true rfl))
    | ((with_reducible apply wps_loada (T := 37) (k := 6) S 0); (case hx => rfl); (case hi => rfl); (case hT => decide +kernel); (case hk => exact Nat.le_of_ble_eq_true rfl))
    | ((with_reducible apply wps_loada (T := 96) (k := 4) S 0); (case hx => rfl); (case hi => rfl); (case hT => decide +kernel); (case hk => exact Nat.le_of_ble_eq_true rfl))
    | ((with_reducible apply wps_load S 1); (case hx => rfl); (case hi => rfl); (case hT => decide +kernel); (case hu => rfl))
    | ((with_reducible apply wps_loada (T := 28) (k := 4) S 1); (case hx => rfl); (case hi => rfl); (case hT => decide +kernel); (case hk => exact Nat.le_of_ble_eq_true rfl))
    | ((with_reducible apply wps_loada (T := 37) (k := 6) S 1); (case hx => rfl); (case hi => rfl); (case hT => decide +kernel); (case hk => exact Nat.le_of_ble_eq_true rfl))
    | ((with_reducible apply wps_loada (T := 96) (k := 4) S 1); (case hx => rfl); (case hi => rfl); (case hT => decide +kernel); (case hk => exact Nat.le_of_ble_eq_true rfl))
  replace S := S.pick [2, 5, 6, 0, 3, 4, 1, 7, 8] rfl
  simp only [pick, nth] at S
  go_loopw [4] (fun i wr => PcRel1 bx bo br (.slice aP c.programs.length cP) (.slice aL c.lps.length cL) (.slice aS c.starts.length cS) hs c w i wr) (fun i _ => c.programs.length - (intOf i).toNat)
  case atStart => exact ⟨0, [], none, 0, Nat.zero_le _, rfl, rfl, S⟩
  case round =>
    clear S
    obtain ⟨j, gs, adg, cg, hj, rfl, hgs, S⟩ := hrel
    by_cases hlt : j < c.programs.length
    · obtain ⟨p, hp⟩ : ∃ p, c.programs[j]? = some p := ⟨_, List.getElem?_eq_getElem hlt⟩
      obtain ⟨v, hv⟩ : ∃ v, hs[j]? = some v := ⟨_, List.getElem?_eq_getElem (by omega)⟩
      obtain ⟨R, o, rfl⟩ : ∃ R o, aP = some ⟨R, o, none⟩ := (S.sl 2 rfl).elim fun F h => h.head (by omega)
      have hlt2 : (j : Int) < c.programs.length := by omega
      have hpn := hm2 p (List.mem_of_getElem? hp)
      obtain ⟨av, cv, rfl, _⟩ := (S.sls 1 rfl).elim fun F h => (h.2 j v p hv hp).form
      have hgl : (gs.length + 1) * 24 ≤ 140737488355328 := by omega
      have Hp := Lib.hid hp
      have Hv := Lib.hid hv
      have Hgs := Lib.hid hgs
      clear hp hv hgs
      replace S := ((S.slsEl 1 rfl Hv.out Hp.out).pick [1, 2, 3, 0, 4, 5, 6, 7, 8, 9] rfl)
      simp only [pick, nth] at S
      go_wp2_with first
        | ((with_reducible refine tot_done ?ht ?_); (case ht => kernel_rfl))
        | ((with_reducible apply wps_alloca (E := 37) S); (case hz => exact Tryd.zeroValue37); clear S; intro bz wz S)
        | ((with_reducible apply wps_alloca (E := 96) S); (case hz => exact Tryd.zeroValue96); clear S; intro bz wz S)
        | ((with_reducible apply wps_load S 0); (case hx => rfl); (case hi => rfl); (case hT => decide +kernel); (case hu => rfl))
        | ((with_reducible apply wps_loada (T := 28) (k := 4) S 0); (case hx => rfl); (case hi => rfl); (case hT => decide +kernel); (case hk => exact Nat.le_of_ble_eq_true rfl))
        | ((with_reducible apply wps_loada (T := 37) (k := 6) S 0); (case hx => rfl); (case hi => rfl); (case hT => decide +kernel); (case hk => exact Nat.le_of_ble_eq_true rfl))
        | ((with_reducible apply wps_loada (T := 96) (k := 4) S 0); (case hx => rfl); (case hi => rfl); (case hT => decide +kernel); (case hk => exact Nat.le_of_ble_eq_true rfl))
        | ((with_reducible apply wps_load S 1); (case hx => rfl); (case hi => rfl); (case hT => decide +kernel); (case hu => rfl))
        | ((with_reducible apply wps_loada (T := 28) (k := 4) S 1); (case hx => rfl); (case hi => rfl); (case hT => decide +kernel); (case hk => exact Nat.le_of_ble_eq_true rfl))
        | ((with_reducible apply wps_loada (T := 37) (k := 6) S 1); (case hx => rfl); (case hi => rfl); (case hT => decide +kernel); (case hk => exact Nat.le_of_ble_eq_true rfl))
        | ((with_reducible apply wps_loada (T := 96) (k := 4) S 1); (case hx => rfl); (case hi => rfl); (case hT => decide +kernel); (case hk => exact Nat.le_of_ble_eq_true rfl))
        | ((with_reducible apply wps_load S 2); (case hx => rfl); (case hi => rfl); (case hT => decide +kernel); (case hu => rfl))
        | ((with_reducible apply wps_loada (T := 28) (k := 4) S 2); (case hx => rfl); (case hi => rfl); (case hT => decide +kernel); (case hk => exact Nat.le_of_ble_eq_true rfl))
        | ((with_reducible apply wps_loada (T := 37) (k := 6) S 2); (case hx => rfl); (case hi => rfl); (case hT => decide +kernel); (case hk => exact Nat.le_of_ble_eq_true rfl))
        | ((with_reducible apply wps_loada (T := 96) (k := 4) S 2); (case hx => rfl); (case hi => rfl); (case hT => decide +kernel); (case hk => exact Nat.le_of_ble_eq_true rfl))
        | ((with_reducible apply wps_load S 3); (case hx => rfl); (case hi => rfl); (case hT => decide +kernel); (case hu => rfl))
        | ((with_reducible apply wps_loada (T := 28) (k := 4) S 3); (case hx => rfl); (case hi => rfl); (case hT => decide +kernel); (case hk => exact Nat.le_of_ble_eq_true rfl))
        | ((with_reducible apply wps_loada (T := 37) (k := 6) S 3); (case hx => rfl); (case hi => rfl); (case hT => decide +kernel); (case hk => exact Nat.le_of_ble_eq_true rfl))
        | ((with_reducible apply wps_loada (T := 96) (k := 4) S 3); (case hx => rfl); (case hi => rfl); (case hT => decide +kernel); (case hk => exact Nat.le_of_ble_eq_true rfl))
      (refine wp_region_wt (soft := [0, 2, 3, 4, 5, 6]) (L := [_, _, _, _]) (T := [_, _, _, _, _, _]) S ?hm ?hB ?_); (case hm => kernel_rfl); (case hB => decide +kernel); clear S
      iterate 6
        (with_reducible apply softs_cons)
        (case hw =>
          (with_reducible apply soft_of); (case hi => rfl)
          intro T wz S
          simp only [List.cons_append, List.nil_append] at S
          go_wp2_with first
            | ((with_reducible apply wps_load_el S 2 (hj := Hv.out) (q := 0) (u := (.slice av p.length cv))); (case hx => rfl); (case hi => rfl); (case hn => omega); (case hT => decide +kernel); (case hu => rfl))
            | ((with_reducible refine tot_done ?ht ?_); (case ht => kernel_rfl))
            | ((with_reducible apply wps_alloca (E := 37) S); (case hz => exact Tryd.zeroValue37); clear S; intro bz wz S)
            | ((with_reducible apply wps_alloca (E := 96) S); (case hz => exact Tryd.zeroValue96); clear S; intro bz wz S)
            | ((with_reducible apply wps_load S 0); (case hx => rfl); (case hi => rfl); (case hT => decide +kernel); (case hu => rfl))
            | ((with_reducible apply wps_loada (T := 28) (k := 4) S 0); (case hx => rfl); (case hi => rfl); (case hT => decide +kernel); (case hk => exact Nat.le_of_ble_eq_true rfl))
            | ((with_reducible apply wps_loada (T := 37) (k := 6) S 0); (case hx => rfl); (case hi => rfl); (case hT => decide +kernel); (case hk => exact Nat.le_of_ble_eq_true rfl))
            | ((with_reducible apply wps_loada (T := 96) (k := 4) S 0); (case hx => rfl); (case hi => rfl); (case hT => decide +kernel); (case hk => exact Nat.le_of_ble_eq_true rfl))
            | ((with_reducible apply wps_load S 1); (case hx => rfl); (case hi => rfl); (case hT => decide +kernel); (case hu => rfl))
            | ((with_reducible apply wps_loada (T := 28) (k := 4) S 1); (case hx => rfl); (case hi => rfl); (case hT => decide +kernel); (case hk => exact Nat.le_of_ble_eq_true rfl))
            | ((with_reducible apply wps_loada (T := 37) (k := 6) S 1); (case hx => rfl); (case hi => rfl); (case hT => decide +kernel); (case hk => exact Nat.le_of_ble_eq_true rfl))
            | ((with_reducible apply wps_loada (T := 96) (k := 4) S 1); (case hx => rfl); (case hi => rfl); (case hT => decide +kernel); (case hk => exact Nat.le_of_ble_eq_true rfl))
            | ((with_reducible apply wps_load S 2); (case hx => rfl); (case hi => rfl); (case hT => decide +kernel); (case hu => rfl))
            | ((with_reducible apply wps_loada (T := 28) (k := 4) S 2); (case hx => rfl); (case hi => rfl); (case hT => decide +kernel); (case hk => exact Nat.le_of_ble_eq_true rfl))
            | ((with_reducible apply wps_loada (T := 37) (k := 6) S 2); (case hx => rfl); (case hi => rfl); (case hT => decide +kernel); (case hk => exact Nat.le_of_ble_eq_true rfl))
            | ((with_reducible apply wps_loada (T := 96) (k := 4) S 2); (case hx => rfl); (case hi => rfl); (case hT => decide +kernel); (case hk => exact Nat.le_of_ble_eq_true rfl))
          exact ⟨rfl, S⟩)
        (case hs => exact ⟨_, rfl, by kernel_rfl⟩)
      refine softs_nil ?_
      repeat'
        (first
          | ((with_reducible apply W_hard1 (i := 1)); (case hn => rfl); (case hr => decide +kernel))
          | ((with_reducible apply W_hard1 (i := 7)); (case hn => rfl); (case hr => decide +kernel))
          | ((with_reducible apply W_hard1 (i := 8)); (case hn => rfl); (case hr => decide +kernel))
          | ((with_reducible apply W_hard1 (i := 9)); (case hn => rfl); (case hr => decide +kernel))
          | ((with_reducible apply W_hard1 (i := 10)); (case hn => rfl); (case hr => decide +kernel))
          | ((with_reducible apply W_hard1 (i := 11)); (case hn => rfl); (case hr => decide +kernel))
          | ((with_reducible apply W_hard2 (i := 1) (i' := 7)); (case hn => rfl); (case hr => decide +kernel))
          | ((with_reducible apply W_hard2 (i := 1) (i' := 8)); (case hn => rfl); (case hr => decide +kernel))
          | ((with_reducible apply W_hard2 (i := 1) (i' := 9)); (case hn => rfl); (case hr => decide +kernel))
          | ((with_reducible apply W_hard2 (i := 1) (i' := 10)); (case hn => rfl); (case hr => decide +kernel))
          | ((with_reducible apply W_hard2 (i := 1) (i' := 11)); (case hn => rfl); (case hr => decide +kernel))
          | ((with_reducible apply W_hard2 (i := 7) (i' := 8)); (case hn => rfl); (case hr => decide +kernel))
          | ((with_reducible apply W_hard2 (i := 7) (i' := 9)); (case hn => rfl); (case hr => decide +kernel))
          | ((with_reducible apply W_hard2 (i := 7) (i' := 10)); (case hn => rfl); (case hr => decide +kernel))
          | ((with_reducible apply W_hard2 (i := 7) (i' := 11)); (case hn => rfl); (case hr => decide +kernel))
          | ((with_reducible apply W_hard2 (i := 8) (i' := 9)); (case hn => rfl); (case hr => decide +kernel))
          | ((with_reducible apply W_hard2 (i := 8) (i' := 10)); (case hn => rfl); (case hr => decide +kernel))
          | ((with_reducible apply W_hard2 (i := 8) (i' := 11)); (case hn => rfl); (case hr => decide +kernel))
          | ((with_reducible apply W_hard2 (i := 9) (i' := 10)); (case hn => rfl); (case hr => decide +kernel))
          | ((with_reducible apply W_hard2 (i := 9) (i' := 11)); (case hn => rfl); (case hr => decide +kernel))
          | ((with_reducible apply W_hard2 (i := 10) (i' := 11)); (case hn => rfl); (case hr => decide +kernel)))
        all_goals
          intro wz S
          (with_reducible apply hard_of); (case hi => rfl)
          simp only [List.cons_append, List.nil_append] at S
          try simp only [pick, nth] at S
          go_wp2_with first
            | (go_at_call 41; refine Calls.mono (lplain_calls _ p _ _ (S.get (i := 3) rfl).choose_spec hpn) ?_; rintro e wz ⟨azi, czi, rfl, T⟩; replace S := S.join T rfl; clear T; simp only [List.cons_append, List.nil_append] at S)
            | ((with_reducible apply wps_buildSlice (T := 33) (E := 86) (cs := #[.slice azi p.length czi]) S); (case hr => intro w; kernel_rfl); clear S; intro bz wz S)
            | ((with_reducible apply wps_append1B elem_RHd hcells hone (by decide) S 5 (j := 11) (e := (⟨azi,p.length,czi⟩:Hd))); (case hx => rfl); (case hy => rfl); (case hi => rfl); (case hj => rfl); (case he => rfl); (case hl => first | omega | (simp; omega)); clear S; intro az nz cz wz hnz S; simp only [List.set_cons_succ, List.set_cons_zero] at S)
            | ((with_reducible apply wps_store (u := (.slice az nz cz)) S 4); (case hx => rfl); (case hy => rfl); (case hi => rfl); (case hT => decide +kernel); (case h1 => rfl); (case hn => exact Nat.le_of_ble_eq_true rfl); clear S; intro wz S; simp only [List.set_cons_succ, List.set_cons_zero, List.setIfInBounds_toArray] at S)
            | ((with_reducible refine tot_done ?ht ?_); (case ht => kernel_rfl))
            | ((with_reducible apply wps_alloca (E := 37) S); (case hz => exact Tryd.zeroValue37); clear S; intro bz wz S)
            | ((with_reducible apply wps_alloca (E := 96) S); (case hz => exact Tryd.zeroValue96); clear S; intro bz wz S)
            | ((with_reducible apply wps_load S 0); (case hx => rfl); (case hi => rfl); (case hT => decide +kernel); (case hu => rfl))
            | ((with_reducible apply wps_loada (T := 28) (k := 4) S 0); (case hx => rfl); (case hi => rfl); (case hT => decide +kernel); (case hk => exact Nat.le_of_ble_eq_true rfl))
            | ((with_reducible apply wps_loada (T := 37) (k := 6) S 0); (case hx => rfl); (case hi => rfl); (case hT => decide +kernel); (case hk => exact Nat.le_of_ble_eq_true rfl))
            | ((with_reducible apply wps_loada (T := 96) (k := 4) S 0); (case hx => rfl); (case hi => rfl); (case hT => decide +kernel); (case hk => exact Nat.le_of_ble_eq_true rfl))
            | ((with_reducible apply wps_load S 1); (case hx => rfl); (case hi => rfl); (case hT => decide +kernel); (case hu => rfl))
            | ((with_reducible apply wps_loada (T := 28) (k := 4) S 1); (case hx => rfl); (case hi => rfl); (case hT => decide +kernel); (case hk => exact Nat.le_of_ble_eq_true rfl))
            | ((with_reducible apply wps_loada (T := 37) (k := 6) S 1); (case hx => rfl); (case hi => rfl); (case hT => decide +kernel); (case hk => exact Nat.le_of_ble_eq_true rfl))
            | ((with_reducible apply wps_loada (T := 96) (k := 4) S 1); (case hx => rfl); (case hi => rfl); (case hT => decide +kernel); (case hk => exact Nat.le_of_ble_eq_true rfl))
            | ((with_reducible apply wps_load S 2); (case hx => rfl); (case hi => rfl); (case hT => decide +kernel); (case hu => rfl))
            | ((with_reducible apply wps_loada (T := 28) (k := 4) S 2); (case hx => rfl); (case hi => rfl); (case hT => decide +kernel); (case hk => exact Nat.le_of_ble_eq_true rfl))
            | ((with_reducible apply wps_loada (T := 37) (k := 6) S 2); (case hx => rfl); (case hi => rfl); (case hT => decide +kernel); (case hk => exact Nat.le_of_ble_eq_true rfl))
            | ((with_reducible apply wps_loada (T := 96) (k := 4) S 2); (case hx => rfl); (case hi => rfl); (case hT => decide +kernel); (case hk => exact Nat.le_of_ble_eq_true rfl))
            | ((with_reducible apply wps_load S 3); (case hx => rfl); (case hi => rfl); (case hT => decide +kernel); (case hu => rfl))
            | ((with_reducible apply wps_loada (T := 28) (k := 4) S 3); (case hx => rfl); (case hi => rfl); (case hT => decide +kernel); (case hk => exact Nat.le_of_ble_eq_true rfl))
            | ((with_reducible apply wps_loada (T := 37) (k := 6) S 3); (case hx => rfl); (case hi => rfl); (case hT => decide +kernel); (case hk => exact Nat.le_of_ble_eq_true rfl))
            | ((with_reducible apply wps_loada (T := 96) (k := 4) S 3); (case hx => rfl); (case hi => rfl); (case hT => decide +kernel); (case hk => exact Nat.le_of_ble_eq_true rfl))
            | ((with_reducible apply wps_load S 4); (case hx => rfl); (case hi => rfl); (case hT => decide +kernel); (case hu => rfl))
            | ((with_reducible apply wps_loada (T := 28) (k := 4) S 4); (case hx => rfl); (case hi => rfl); (case hT => decide +kernel); (case hk => exact Nat.le_of_ble_eq_true rfl))
            | ((with_reducible apply wps_loada (T := 37) (k := 6) S 4); (case hx => rfl); (case hi => rfl); (case hT => decide +kernel); (case hk => exact Nat.le_of_ble_eq_true rfl))
            | ((with_reducible apply wps_loada (T := 96) (k := 4) S 4); (case hx => rfl); (case hi => rfl); (case hT => decide +kernel); (case hk => exact Nat.le_of_ble_eq_true rfl))
            | ((with_reducible apply wps_load S 5); (case hx => rfl); (case hi => rfl); (case hT => decide +kernel); (case hu => rfl))
            | ((with_reducible apply wps_loada (T := 28) (k := 4) S 5); (case hx => rfl); (case hi => rfl); (case hT => decide +kernel); (case hk => exact Nat.le_of_ble_eq_true rfl))
            | ((with_reducible apply wps_loada (T := 37) (k := 6) S 5); (case hx => rfl); (case hi => rfl); (case hT => decide +kernel); (case hk => exact Nat.le_of_ble_eq_true rfl))
            | ((with_reducible apply wps_loada (T := 96) (k := 4) S 5); (case hx => rfl); (case hi => rfl); (case hT => decide +kernel); (case hk => exact Nat.le_of_ble_eq_true rfl))
          first
            | refine ⟨_, S.pick [1, 2, 3, 4, 5, 6, 7, 8, 9, 10, 11, 12, 0] rfl, ?_⟩
            | refine ⟨_, S.pick [1, 2, 3, 4, 5, 6, 7, 8, 9, 10, 11, 0] rfl, ?_⟩
            | refine ⟨_, S.pick [1, 2, 3, 4, 5, 6, 7, 8, 9, 10, 0] rfl, ?_⟩
            | refine ⟨_, S.pick [1, 2, 3, 4, 5, 6, 7, 8, 9, 0] rfl, ?_⟩
            | refine ⟨_, S.pick [1, 2, 3, 4, 5, 6, 7, 8, 0] rfl, ?_⟩
            | refine ⟨_, S.pick [1, 2, 3, 4, 5, 6, 7, 0] rfl, ?_⟩
            | refine ⟨_, S.pick [1, 2, 3, 4, 5, 6, 0] rfl, ?_⟩
            | refine ⟨_, S.pick [1, 2, 3, 4, 5, 0] rfl, ?_⟩
            | refine ⟨_, S.pick [1, 2, 3, 4, 0] rfl, ?_⟩
            | refine ⟨_, S, ?_⟩
      all_goals
        (with_reducible apply W_done); (case hn => rfl); (case hr => decide +kernel)
        clear S
        intro wz S
        simp only [List.cons_append, List.nil_append] at S
        try simp only [pick, nth] at S
        obtain rfl : nz = j + 1 := by rw [hnz.out, Hgs.out]
        replace S := ((S.pick [10, 6, 0, 1, 2, 4, 5, 7, 8, 9] rfl).owsSnoc.pick [1, 2, 3, 4, 5, 0, 6, 7, 8] rfl)
        simp only [pick, nth] at S
        go_wp2_with first
          | ((with_reducible refine tot_done ?ht ?_); (case ht => kernel_rfl))
          | ((with_reducible apply wps_text S); (case hm => kernel_rfl); (case hB => decide +kernel); clear S; intro wz S)
          | ((with_reducible apply wps_alloca (E := 37) S); (case hz => exact Tryd.zeroValue37); clear S; intro bz wz S)
          | ((with_reducible apply wps_alloca (E := 96) S); (case hz => exact Tryd.zeroValue96); clear S; intro bz wz S)
          | ((with_reducible apply wps_load S 0); (case hx => rfl); (case hi => rfl); (case hT => decide +kernel); (case hu => rfl))
          | ((with_reducible apply wps_loada (T := 28) (k := 4) S 0); (case hx => rfl); (case hi => rfl); (case hT => decide +kernel); (case hk => exact Nat.le_of_ble_eq_true rfl))
          | ((with_reducible apply wps_loada (T := 37) (k := 6) S 0); (case hx => rfl); (case hi => rfl); (case hT => decide +kernel); (case hk => exact Nat.le_of_ble_eq_true rfl))
          | ((with_reducible apply wps_loada (T := 96) (k := 4) S 0); (case hx => rfl); (case hi => rfl); (case hT => decide +kernel); (case hk => exact Nat.le_of_ble_eq_true rfl))
        go_roundw
        case rel =>
          refine ⟨j + 1, gs ++ [⟨azi, p.length, czi⟩], az, cz, by omega, by go_num, by simp [Hgs.out], ?_⟩
          have ht : c.programs.take (j + 1) = c.programs.take j ++ [p] := by rw [List.take_add_one, Hp.out]; rfl
          have hmap : (gs ++ [(⟨azi, p.length, czi⟩ : Hd)]).map Hd.val = gs.map Hd.val ++ [.slice azi p.length czi] := by simp [Hd.val]
          rw [ht, hmap]
          exact S
        case measure => first | (simp [intOf]; done) | (simp [intOf]; omega)
    · obtain rfl : j = c.programs.length := by omega
      rw [List.take_length] at S
      replace S := (S.pick [3, 0, 7, 8, 4, 5, 6] rfl).nil 87 Place.cells 5
      replace S := S.pick [1, 0, 2, 3, 4, 5, 6, 7] rfl
      simp only [pick, nth] at S
      go_wp2_with first
        | ((with_reducible refine tot_done ?ht ?_); (case ht => kernel_rfl))
        | ((with_reducible apply wps_text S); (case hm => kernel_rfl); (case hB => decide +kernel); clear S; intro wz S)
        | ((with_reducible apply wps_alloca (E := 37) S); (case hz => exact Tryd.zeroValue37); clear S; intro bz wz S)
        | ((with_reducible apply wps_alloca (E := 96) S); (case hz => exact Tryd.zeroValue96); clear S; intro bz wz S)
        | ((with_reducible apply wps_load S 0); (case hx => rfl); (case hi => rfl); (case hT => decide +kernel); (case hu => rfl))
        | ((with_reducible apply wps_loada (T := 28) (k := 4) S 0); (case hx => rfl); (case hi => rfl); (case hT => decide +kernel); (case hk => exact Nat.le_of_ble_eq_true rfl))
        | ((with_reducible apply wps_loada (T := 37) (k := 6) S 0); (case hx => rfl); (case hi => rfl); (case hT => decide +kernel); (case hk => exact Nat.le_of_ble_eq_true rfl))
        | ((with_reducible apply wps_loada (T := 96) (k := 4) S 0); (case hx => rfl); (case hi => rfl); (case hT => decide +kernel); (case hk => exact Nat.le_of_ble_eq_true rfl))
        | ((with_reducible apply wps_load S 1); (case hx => rfl); (case hi => rfl); (case hT => decide +kernel); (case hu => rfl))
        | ((with_reducible apply wps_loada (T := 28) (k := 4) S 1); (case hx => rfl); (case hi => rfl); (case hT => decide +kernel); (case hk => exact Nat.le_of_ble_eq_true rfl))
        | ((with_reducible apply wps_loada (T := 37) (k := 6) S 1); (case hx => rfl); (case hi => rfl); (case hT => decide +kernel); (case hk => exact Nat.le_of_ble_eq_true rfl))
        | ((with_reducible apply wps_loada (T := 96) (k := 4) S 1); (case hx => rfl); (case hi => rfl); (case hT => decide +kernel); (case hk => exact Nat.le_of_ble_eq_true rfl))
        | ((with_reducible apply wps_load S 2); (case hx => rfl); (case hi => rfl); (case hT => decide +kernel); (case hu => rfl))
        | ((with_reducible apply wps_loada (T := 28) (k := 4) S 2); (case hx => rfl); (case hi => rfl); (case hT => decide +kernel); (case hk => exact Nat.le_of_ble_eq_true rfl))
        | ((with_reducible apply wps_loada (T := 37) (k := 6) S 2); (case hx => rfl); (case hi => rfl); (case hT => decide +kernel); (case hk => exact Nat.le_of_ble_eq_true rfl))
        | ((with_reducible apply wps_loada (T := 96) (k := 4) S 2); (case hx => rfl); (case hi => rfl); (case hT => decide +kernel); (case hk => exact Nat.le_of_ble_eq_true rfl))
      go_loopw [5] (fun i wr => PcRel2 bx bo br (.slice aP c.programs.length cP) (.slice aL c.lps.length cL) (.slice aS c.starts.length cS) (.slice adg c.programs.length cg) gs c w i wr) (fun i _ => c.lps.length - (intOf i).toNat)
      case atStart => exact ⟨0, none, 0, Nat.zero_le _, rfl, S⟩
      case round =>
        clear S
        obtain ⟨j, adr, cr, hj, rfl, S⟩ := hrel
        by_cases hlt : j < c.lps.length
        · obtain ⟨l, hl⟩ : ∃ l, c.lps[j]? = some l := ⟨_, List.getElem?_eq_getElem hlt⟩
          obtain ⟨R, o, rfl⟩ : ∃ R o, aL = some ⟨R, o, none⟩ := (S.sl 3 rfl).elim fun F h => h.head (by omega)
          have hlt2 : (j : Int) < c.lps.length := by omega
          have ht : Hid (c.lps.take (j + 1) = c.lps.take j ++ [l]) := by show _ = _; rw [List.take_add_one, hl]; rfl
          have htl : ((c.lps.take j).length + 1) * 40 ≤ 140737488355328 := by rw [List.length_take, Nat.min_eq_left hj]; omega
          have Htl : Hid ((c.lps.take j).length = j) := by show _ = _; simp; omega
          have Hl := Lib.hid hl
          clear hl
          go_wp2_with first
            | ((with_reducible apply wps_load_el S 3 (hj := Hl.out) (q := 0) (u := .int .i64 l.program)); (case hx => rfl); (case hi => rfl); (case hn => omega); (case hT => decide +kernel); (case hu => rfl))
            | ((with_reducible apply wps_loada_el S 3 (hj := Hl.out) (q := 1) (vs := [.int .i64 l.first.n0, .int .i64 l.first.n1, .int .i64 l.first.n2, .int .i64 l.first.n3]) (m := 4)); (case hx => rfl); (case hT => decide +kernel); (case hi => rfl); (case hn => omega); (case hm => rfl); (case hv => rfl))
            | ((with_reducible apply wps_load_el S 3 (hj := Hl.out) (q := 1) (u := .int .i64 l.first.n0)); (case hx => rfl); (case hi => rfl); (case hn => omega); (case hT => decide +kernel); (case hu => rfl))
            | ((with_reducible apply wps_load_el S 3 (hj := Hl.out) (q := 2) (u := .int .i64 l.first.n1)); (case hx => rfl); (case hi => rfl); (case hn => omega); (case hT => decide +kernel); (case hu => rfl))
            | ((with_reducible apply wps_load_el S 3 (hj := Hl.out) (q := 3) (u := .int .i64 l.first.n2)); (case hx => rfl); (case hi => rfl); (case hn => omega); (case hT => decide +kernel); (case hu => rfl))
            | ((with_reducible apply wps_load_el S 3 (hj := Hl.out) (q := 4) (u := .int .i64 l.first.n3)); (case hx => rfl); (case hi => rfl); (case hn => omega); (case hT => decide +kernel); (case hu => rfl))
            | ((with_reducible apply wps_build1a (T := 34) (E := 87) S); (case hx => rfl); (case hr => intro w; kernel_rfl); clear S; intro bz wz S)
            | ((with_reducible apply wps_append1B elem_RPl plcells plone (by decide) S 2 (j := 0) (e := l)); (case hx => rfl); (case hy => rfl); (case hi => rfl); (case hj => rfl); (case he => rfl); (case hl => first | omega | (simp; omega)); clear S; intro az nz cz wz hnz S; simp only [List.set_cons_succ, List.set_cons_zero] at S)
            | ((with_reducible apply wps_store (u := (.slice az nz cz)) S 1); (case hx => rfl); (case hy => rfl); (case hi => rfl); (case hT => decide +kernel); (case h1 => rfl); (case hn => exact Nat.le_of_ble_eq_true rfl); clear S; intro wz S; simp only [List.set_cons_succ, List.set_cons_zero, List.setIfInBounds_toArray] at S)
            | ((with_reducible refine tot_done ?ht ?_); (case ht => kernel_rfl))
            | ((with_reducible apply wps_text S); (case hm => kernel_rfl); (case hB => decide +kernel); clear S; intro wz S)
            | ((with_reducible apply wps_alloca (E := 37) S); (case hz => exact Tryd.zeroValue37); clear S; intro bz wz S)
            | ((with_reducible apply wps_alloca (E := 96) S); (case hz => exact Tryd.zeroValue96); clear S; intro bz wz S)
            | ((with_reducible apply wps_load S 0); (case hx => rfl); (case hi => rfl); (case hT => decide +kernel); (case hu => rfl))
            | ((with_reducible apply wps_loada (T := 28) (k := 4) S 0); (case hx => rfl); (case hi => rfl); (case hT => decide +kernel); (case hk => exact Nat.le_of_ble_eq_true rfl))
            | ((with_reducible apply wps_loada (T := 37) (k := 6) S 0); (case hx => rfl); (case hi => rfl); (case hT => decide +kernel); (case hk => exact Nat.le_of_ble_eq_true rfl))
            | ((with_reducible apply wps_loada (T := 96) (k := 4) S 0); (case hx => rfl); (case hi => rfl); (case hT => decide +kernel); (case hk => exact Nat.le_of_ble_eq_true rfl))
            | ((with_reducible apply wps_load S 1); (case hx => rfl); (case hi => rfl); (case hT => decide +kernel); (case hu => rfl))
            | ((with_reducible apply wps_loada (T := 28) (k := 4) S 1); (case hx => rfl); (case hi => rfl); (case hT => decide +kernel); (case hk => exact Nat.le_of_ble_eq_true rfl))
            | ((with_reducible apply wps_loada (T := 37) (k := 6) S 1); (case hx => rfl); (case hi => rfl); (case hT => decide +kernel); (case hk => exact Nat.le_of_ble_eq_true rfl))
            | ((with_reducible apply wps_loada (T := 96) (k := 4) S 1); (case hx => rfl); (case hi => rfl); (case hT => decide +kernel); (case hk => exact Nat.le_of_ble_eq_true rfl))
            | ((with_reducible apply wps_load S 2); (case hx => rfl); (case hi => rfl); (case hT => decide +kernel); (case hu => rfl))
            | ((with_reducible apply wps_loada (T := 28) (k := 4) S 2); (case hx => rfl); (case hi => rfl); (case hT => decide +kernel); (case hk => exact Nat.le_of_ble_eq_true rfl))
            | ((with_reducible apply wps_loada (T := 37) (k := 6) S 2); (case hx => rfl); (case hi => rfl); (case hT => decide +kernel); (case hk => exact Nat.le_of_ble_eq_true rfl))
            | ((with_reducible apply wps_loada (T := 96) (k := 4) S 2); (case hx => rfl); (case hi => rfl); (case hT => decide +kernel); (case hk => exact Nat.le_of_ble_eq_true rfl))
            | ((with_reducible apply wps_load S 3); (case hx => rfl); (case hi => rfl); (case hT => decide +kernel); (case hu => rfl))
            | ((with_reducible apply wps_loada (T := 28) (k := 4) S 3); (case hx => rfl); (case hi => rfl); (case hT => decide +kernel); (case hk => exact Nat.le_of_ble_eq_true rfl))
            | ((with_reducible apply wps_loada (T := 37) (k := 6) S 3); (case hx => rfl); (case hi => rfl); (case hT => decide +kernel); (case hk => exact Nat.le_of_ble_eq_true rfl))
            | ((with_reducible apply wps_loada (T := 96) (k := 4) S 3); (case hx => rfl); (case hi => rfl); (case hT => decide +kernel); (case hk => exact Nat.le_of_ble_eq_true rfl))
          obtain rfl : nz = j + 1 := by rw [hnz.out, Htl.out]
          go_roundw
          case rel => exact ⟨j + 1, az, cz, by omega, by go_num, by rw [ht.out]; exact S.pick [1, 2, 3, 4, 5, 6, 7, 8] rfl⟩
          case measure => first | (simp [intOf]; done) | (simp [intOf]; omega)
        · obtain rfl : j = c.lps.length := by omega
          rw [List.take_length] at S
          replace S := (S.pick [0, 2, 4, 1, 5, 6, 7] rfl).nil 97 Start.cells 4
          replace S := S.pick [1, 0, 2, 3, 4, 5, 6, 7] rfl
          simp only [pick, nth] at S
          go_wp2_with first
            | ((with_reducible refine tot_done ?ht ?_); (case ht => kernel_rfl))
            | ((with_reducible apply wps_text S); (case hm => kernel_rfl); (case hB => decide +kernel); clear S; intro wz S)
            | ((with_reducible apply wps_alloca (E := 37) S); (case hz => exact Tryd.zeroValue37); clear S; intro bz wz S)
            | ((with_reducible apply wps_alloca (E := 96) S); (case hz => exact Tryd.zeroValue96); clear S; intro bz wz S)
            | ((with_reducible apply wps_load S 0); (case hx => rfl); (case hi => rfl); (case hT => decide +kernel); (case hu => rfl))
            | ((with_reducible apply wps_loada (T := 28) (k := 4) S 0); (case hx => rfl); (case hi => rfl); (case hT => decide +kernel); (case hk => exact Nat.le_of_ble_eq_true rfl))
            | ((with_reducible apply wps_loada (T := 37) (k := 6) S 0); (case hx => rfl); (case hi => rfl); (case hT => decide +kernel); (case hk => exact Nat.le_of_ble_eq_true rfl))
            | ((with_reducible apply wps_loada (T := 96) (k := 4) S 0); (case hx => rfl); (case hi => rfl); (case hT => decide +kernel); (case hk => exact Nat.le_of_ble_eq_true rfl))
            | ((with_reducible apply wps_load S 1); (case hx => rfl); (case hi => rfl); (case hT => decide +kernel); (case hu => rfl))
            | ((with_reducible apply wps_loada (T := 28) (k := 4) S 1); (case hx => rfl); (case hi => rfl); (case hT => decide +kernel); (case hk => exact Nat.le_of_ble_eq_true rfl))
            | ((with_reducible apply wps_loada (T := 37) (k := 6) S 1); (case hx => rfl); (case hi => rfl); (case hT => decide +kernel); (case hk => exact Nat.le_of_ble_eq_true rfl))
            | ((with_reducible apply wps_loada (T := 96) (k := 4) S 1); (case hx => rfl); (case hi => rfl); (case hT => decide +kernel); (case hk => exact Nat.le_of_ble_eq_true rfl))
            | ((with_reducible apply wps_load S 2); (case hx => rfl); (case hi => rfl); (case hT => decide +kernel); (case hu => rfl))
            | ((with_reducible apply wps_loada (T := 28) (k := 4) S 2); (case hx => rfl); (case hi => rfl); (case hT => decide +kernel); (case hk => exact Nat.le_of_ble_eq_true rfl))
            | ((with_reducible apply wps_loada (T := 37) (k := 6) S 2); (case hx => rfl); (case hi => rfl); (case hT => decide +kernel); (case hk => exact Nat.le_of_ble_eq_true rfl))
            | ((with_reducible apply wps_loada (T := 96) (k := 4) S 2); (case hx => rfl); (case hi => rfl); (case hT => decide +kernel); (case hk => exact Nat.le_of_ble_eq_true rfl))
          go_loopw [6] (fun i wr => PcRel3 bx bo br (.slice aP c.programs.length cP) (.slice aL c.lps.length cL) (.slice aS c.starts.length cS) (.slice adg c.programs.length cg) (.slice adr c.lps.length cr) gs c w i wr) (fun i _ => c.starts.length - (intOf i).toNat)
          case atStart => exact ⟨0, none, 0, Nat.zero_le _, rfl, S⟩
          case round =>
            clear S
            obtain ⟨j, adt, ct, hj, rfl, S⟩ := hrel
            by_cases hlt : j < c.starts.length
            · obtain ⟨l, hl⟩ : ∃ l, c.starts[j]? = some l := ⟨_, List.getElem?_eq_getElem hlt⟩
              obtain ⟨R, o, rfl⟩ : ∃ R o, aS = some ⟨R, o, none⟩ := (S.sl 3 rfl).elim fun F h => h.head (by omega)
              have hlt2 : (j : Int) < c.starts.length := by omega
              have ht : Hid (c.starts.take (j + 1) = c.starts.take j ++ [l]) := by show _ = _; rw [List.take_add_one, hl]; rfl
              have htl : ((c.starts.take j).length + 1) * 32 ≤ 140737488355328 := by rw [List.length_take, Nat.min_eq_left hj]; omega
              have Htl : Hid ((c.starts.take j).length = j) := by show _ = _; simp; omega
              have Hl := Lib.hid hl
              clear hl
              go_wp2_with first
                | ((with_reducible apply wps_alloca (E := 96) S); (case hz => exact Tryd.zeroValue96); clear S; intro bz wz S)
                | ((with_reducible apply wps_loada_el S 3 (hj := Hl.out) (q := 0) (vs := [.int .i64 l.dst, .int .i64 l.at_, .int .i64 l.kind, .int .i64 l.data]) (m := 4)); (case hx => rfl); (case hT => decide +kernel); (case hi => rfl); (case hn => omega); (case hm => rfl); (case hv => rfl))
                | ((with_reducible apply wps_load_el S 3 (hj := Hl.out) (q := 0) (u := .int .i64 l.dst)); (case hx => rfl); (case hi => rfl); (case hn => omega); (case hT => decide +kernel); (case hu => rfl))
                | ((with_reducible apply wps_load_el S 3 (hj := Hl.out) (q := 1) (u := .int .i64 l.at_)); (case hx => rfl); (case hi => rfl); (case hn => omega); (case hT => decide +kernel); (case hu => rfl))
                | ((with_reducible apply wps_load_el S 3 (hj := Hl.out) (q := 2) (u := .int .i64 l.kind)); (case hx => rfl); (case hi => rfl); (case hn => omega); (case hT => decide +kernel); (case hu => rfl))
                | ((with_reducible apply wps_load_el S 3 (hj := Hl.out) (q := 3) (u := .int .i64 l.data)); (case hx => rfl); (case hi => rfl); (case hn => omega); (case hT => decide +kernel); (case hu => rfl))
                | ((with_reducible apply wps_storea (T := 96) S 0 (vs := [.int .i64 l.dst, .int .i64 l.at_, .int .i64 l.kind, .int .i64 l.data]) (m := 4)); (case hx => rfl); (case hy => rfl); (case hi => rfl); (case hT => decide +kernel); (case hm => rfl); (case h1 => rfl); (case hn => exact Nat.le_of_ble_eq_true rfl); clear S; intro wz S; simp only [List.set_cons_zero, List.set_cons_succ, setAll, List.setIfInBounds_toArray] at S)
                | ((with_reducible apply wps_build1a (T := 35) (E := 97) S); (case hx => rfl); (case hr => intro w; kernel_rfl); clear S; intro bz wz S)
                | ((with_reducible apply wps_append1B elem_RSta stcells stone (by decide) S 3 (j := 0) (e := l)); (case hx => rfl); (case hy => rfl); (case hi => rfl); (case hj => rfl); (case he => rfl); (case hl => first | omega | (simp; omega)); clear S; intro az nz cz wz hnz S; simp only [List.set_cons_succ, List.set_cons_zero] at S)
                | ((with_reducible apply wps_store (u := (.slice az nz cz)) S 2); (case hx => rfl); (case hy => rfl); (case hi => rfl); (case hT => decide +kernel); (case h1 => rfl); (case hn => exact Nat.le_of_ble_eq_true rfl); clear S; intro wz S; simp only [List.set_cons_succ, List.set_cons_zero, List.setIfInBounds_toArray] at S)
                | ((with_reducible refine tot_done ?ht ?_); (case ht => kernel_rfl))
                | ((with_reducible apply wps_text S); (case hm => kernel_rfl); (case hB => decide +kernel); clear S; intro wz S)
                | ((with_reducible apply wps_alloca (E := 37) S); (case hz => exact Tryd.zeroValue37); clear S; intro bz wz S)
                | ((with_reducible apply wps_alloca (E := 96) S); (case hz => exact Tryd.zeroValue96); clear S; intro bz wz S)
                | ((with_reducible apply wps_load S 0); (case hx => rfl); (case hi => rfl); (case hT => decide +kernel); (case hu => rfl))
                | ((with_reducible apply wps_loada (T := 28) (k := 4) S 0); (case hx => rfl); (case hi => rfl); (case hT => decide +kernel); (case hk => exact Nat.le_of_ble_eq_true rfl))
                | ((with_reducible apply wps_loada (T := 37) (k := 6) S 0); (case hx => rfl); (case hi => rfl); (case hT => decide +kernel); (case hk => exact Nat.le_of_ble_eq_true rfl))
                | ((with_reducible apply wps_loada (T := 96) (k := 4) S 0); (case hx => rfl); (case hi => rfl); (case hT => decide +kernel); (case hk => exact Nat.le_of_ble_eq_true rfl))
                | ((with_reducible apply wps_load S 1); (case hx => rfl); (case hi => rfl); (case hT => decide +kernel); (case hu => rfl))
                | ((with_reducible apply wps_loada (T := 28) (k := 4) S 1); (case hx => rfl); (case hi => rfl); (case hT => decide +kernel); (case hk => exact Nat.le_of_ble_eq_true rfl))
                | ((with_reducible apply wps_loada (T := 37) (k := 6) S 1); (case hx => rfl); (case hi => rfl); (case hT => decide +kernel); (case hk => exact Nat.le_of_ble_eq_true rfl))
                | ((with_reducible apply wps_loada (T := 96) (k := 4) S 1); (case hx => rfl); (case hi => rfl); (case hT => decide +kernel); (case hk => exact Nat.le_of_ble_eq_true rfl))
                | ((with_reducible apply wps_load S 2); (case hx => rfl); (case hi => rfl); (case hT => decide +kernel); (case hu => rfl))
                | ((with_reducible apply wps_loada (T := 28) (k := 4) S 2); (case hx => rfl); (case hi => rfl); (case hT => decide +kernel); (case hk => exact Nat.le_of_ble_eq_true rfl))
                | ((with_reducible apply wps_loada (T := 37) (k := 6) S 2); (case hx => rfl); (case hi => rfl); (case hT => decide +kernel); (case hk => exact Nat.le_of_ble_eq_true rfl))
                | ((with_reducible apply wps_loada (T := 96) (k := 4) S 2); (case hx => rfl); (case hi => rfl); (case hT => decide +kernel); (case hk => exact Nat.le_of_ble_eq_true rfl))
                | ((with_reducible apply wps_load S 3); (case hx => rfl); (case hi => rfl); (case hT => decide +kernel); (case hu => rfl))
                | ((with_reducible apply wps_loada (T := 28) (k := 4) S 3); (case hx => rfl); (case hi => rfl); (case hT => decide +kernel); (case hk => exact Nat.le_of_ble_eq_true rfl))
                | ((with_reducible apply wps_loada (T := 37) (k := 6) S 3); (case hx => rfl); (case hi => rfl); (case hT => decide +kernel); (case hk => exact Nat.le_of_ble_eq_true rfl))
                | ((with_reducible apply wps_loada (T := 96) (k := 4) S 3); (case hx => rfl); (case hi => rfl); (case hT => decide +kernel); (case hk => exact Nat.le_of_ble_eq_true rfl))
              obtain rfl : nz = j + 1 := by rw [hnz.out, Htl.out]
              go_roundw
              case rel => exact ⟨j + 1, az, cz, by omega, by go_num, by rw [ht.out]; exact S.pick [2, 3, 4, 5, 6, 7, 8, 9] rfl⟩
              case measure => first | (simp [intOf]; done) | (simp [intOf]; omega)
            · obtain rfl : j = c.starts.length := by omega
              rw [List.take_length] at S
              go_wp2_with first
                | ((with_reducible apply wps_storea (T := 37) S 7 (vs := [.slice adg c.programs.length cg, .slice adr c.lps.length cr, .slice adt c.starts.length ct, .int .i64 c.fin, .int .i64 c.fuel, .int .i64 c.fan]) (m := 6)); (case hx => rfl); (case hy => rfl); (case hi => rfl); (case hT => decide +kernel); (case hm => rfl); (case h1 => rfl); (case hn => exact Nat.le_of_ble_eq_true rfl); clear S; intro wz S; simp only [List.set_cons_zero, List.set_cons_succ, setAll, List.setIfInBounds_toArray] at S)
                | ((with_reducible refine tot_done ?ht ?_); (case ht => kernel_rfl))
                | ((with_reducible apply wps_text S); (case hm => kernel_rfl); (case hB => decide +kernel); clear S; intro wz S)
                | ((with_reducible apply wps_alloca (E := 37) S); (case hz => exact Tryd.zeroValue37); clear S; intro bz wz S)
                | ((with_reducible apply wps_alloca (E := 96) S); (case hz => exact Tryd.zeroValue96); clear S; intro bz wz S)
                | ((with_reducible apply wps_load S 0); (case hx => rfl); (case hi => rfl); (case hT => decide +kernel); (case hu => rfl))
                | ((with_reducible apply wps_loada (T := 28) (k := 4) S 0); (case hx => rfl); (case hi => rfl); (case hT => decide +kernel); (case hk => exact Nat.le_of_ble_eq_true rfl))
                | ((with_reducible apply wps_loada (T := 37) (k := 6) S 0); (case hx => rfl); (case hi => rfl); (case hT => decide +kernel); (case hk => exact Nat.le_of_ble_eq_true rfl))
                | ((with_reducible apply wps_loada (T := 96) (k := 4) S 0); (case hx => rfl); (case hi => rfl); (case hT => decide +kernel); (case hk => exact Nat.le_of_ble_eq_true rfl))
                | ((with_reducible apply wps_load S 1); (case hx => rfl); (case hi => rfl); (case hT => decide +kernel); (case hu => rfl))
                | ((with_reducible apply wps_loada (T := 28) (k := 4) S 1); (case hx => rfl); (case hi => rfl); (case hT => decide +kernel); (case hk => exact Nat.le_of_ble_eq_true rfl))
                | ((with_reducible apply wps_loada (T := 37) (k := 6) S 1); (case hx => rfl); (case hi => rfl); (case hT => decide +kernel); (case hk => exact Nat.le_of_ble_eq_true rfl))
                | ((with_reducible apply wps_loada (T := 96) (k := 4) S 1); (case hx => rfl); (case hi => rfl); (case hT => decide +kernel); (case hk => exact Nat.le_of_ble_eq_true rfl))
                | ((with_reducible apply wps_load S 2); (case hx => rfl); (case hi => rfl); (case hT => decide +kernel); (case hu => rfl))
                | ((with_reducible apply wps_loada (T := 28) (k := 4) S 2); (case hx => rfl); (case hi => rfl); (case hT => decide +kernel); (case hk => exact Nat.le_of_ble_eq_true rfl))
                | ((with_reducible apply wps_loada (T := 37) (k := 6) S 2); (case hx => rfl); (case hi => rfl); (case hT => decide +kernel); (case hk => exact Nat.le_of_ble_eq_true rfl))
                | ((with_reducible apply wps_loada (T := 96) (k := 4) S 2); (case hx => rfl); (case hi => rfl); (case hT => decide +kernel); (case hk => exact Nat.le_of_ble_eq_true rfl))
              (try simp only [Exit.inBlock, Exit.then]); (with_reducible apply S.ret_cell 7); (case hi => rfl); (case h => rfl); (case hp => rfl); (case hA => kernel_rfl); (case hd => rfl)
              exact ⟨gs, _, _, _, rfl, hgs, S.pick [5, 6, 4, 1] rfl⟩
end Go.Proofs.YtfiiaechippboaaDoor

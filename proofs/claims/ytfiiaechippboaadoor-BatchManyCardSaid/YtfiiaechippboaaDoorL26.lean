import Derived.Test.YtfiiaechippboaaDoorL23
import Derived.Test.YtfiiaechippboaaDoorL15
import Derived.Test.YtfiiaechippboaaDoorL07
/- The walk of the law's Plain: a configuration as the reference has it. -/
namespace Go.Proofs.YtfiiaechippboaaDoor
open Go Go.RowKit Reg Mem

set_option maxRecDepth 100000 in
theorem elem_RHd : Elem Tryd.prog 33 86 1 24 := ⟨_, .slice none 0 0, Tryd.underlying33, rfl, by kernel_rfl, by kernel_rfl, by kernel_rfl, by kernel_rfl, by omega⟩
set_option maxRecDepth 100000 in
theorem elem_RPl : Elem Tryd.prog 34 87 5 40 := ⟨_, .agg #[.int .i64 0, .int .i64 0, .int .i64 0, .int .i64 0, .int .i64 0], Tryd.underlying34, rfl, by kernel_rfl, by kernel_rfl, by kernel_rfl, by kernel_rfl, by omega⟩
set_option maxRecDepth 100000 in
theorem elem_RSta : Elem Tryd.prog 35 97 4 32 := ⟨_, .agg #[.int .i64 0, .int .i64 0, .int .i64 0, .int .i64 0], Tryd.underlying35, rfl, by kernel_rfl, by kernel_rfl, by kernel_rfl, by kernel_rfl, by omega⟩
def PcRel1 (bx bo br : Nat) (vP vL vS : Value) (hs : List Value) (c : Cfg) (w : World) (i : Value) (wr : World) : Prop :=
  ∃ (j : Nat) (gs : List Hd) (ad : Option Addr) (cp : Nat), j ≤ c.programs.length ∧ i = .int .i64 j ∧ gs.length = j ∧
    St (fun _ => False) w wr [Blk false bx #[vP, vL, vS, .int .i64 c.fin, .int .i64 c.fuel, .int .i64 c.fan] 26, Sls true Instr.cells 5 hs c.programs, Sl true vcell 1 vP hs,
      Blk false bo #[.slice ad j cp, .slice none 0 0, .slice none 0 0, .int .i64 c.fin, .int .i64 c.fuel, .int .i64 c.fan] 37, Own 86 hcell 1 (.slice ad j cp) gs, Ows 123 Instr.cells 5 (gs.map Hd.val) (c.programs.take j), Blk false br #[.slice none 0 0, .slice none 0 0, .slice none 0 0, .int .i64 0, .int .i64 0, .int .i64 0] 37, Sl true Place.cells 5 vL c.lps, Sl true Start.cells 4 vS c.starts]
def PcRel2 (bx bo br : Nat) (vP vL vS vH : Value) (gs : List Hd) (c : Cfg) (w : World) (i : Value) (wr : World) : Prop :=
  ∃ (j : Nat) (ad : Option Addr) (cp : Nat), j ≤ c.lps.length ∧ i = .int .i64 j ∧
    St (fun _ => False) w wr [Blk false bo #[vH, .slice ad j cp, .slice none 0 0, .int .i64 c.fin, .int .i64 c.fuel, .int .i64 c.fan] 37, Own 87 Place.cells 5 (.slice ad j cp) (c.lps.take j), Blk false bx #[vP, vL, vS, .int .i64 c.fin, .int .i64 c.fuel, .int .i64 c.fan] 26, Sl true Place.cells 5 vL c.lps, Sl true Start.cells 4 vS c.starts,
      Own 86 hcell 1 vH gs, Ows 123 Instr.cells 5 (gs.map Hd.val) c.programs, Blk false br #[.slice none 0 0, .slice none 0 0, .slice none 0 0, .int .i64 0, .int .i64 0, .int .i64 0] 37]
def PcRel3 (bx bo br : Nat) (vP vL vS vH vR : Value) (gs : List Hd) (c : Cfg) (w : World) (i : Value) (wr : World) : Prop :=
  ∃ (j : Nat) (ad : Option Addr) (cp : Nat), j ≤ c.starts.length ∧ i = .int .i64 j ∧
    St (fun _ => False) w wr [Blk false bo #[vH, vR, .slice ad j cp, .int .i64 c.fin, .int .i64 c.fuel, .int .i64 c.fan] 37, Own 97 Start.cells 4 (.slice ad j cp) (c.starts.take j), Blk false bx #[vP, vL, vS, .int .i64 c.fin, .int .i64 c.fuel, .int .i64 c.fan] 26, Sl true Start.cells 4 vS c.starts,
      Own 87 Place.cells 5 vR c.lps, Own 86 hcell 1 vH gs, Ows 123 Instr.cells 5 (gs.map Hd.val) c.programs, Blk false br #[.slice none 0 0, .slice none 0 0, .slice none 0 0, .int .i64 0, .int .i64 0, .int .i64 0] 37]
/-- What Plain leaves. -/
def CPlainPost (c : Cfg) (w : World) (e : Ending) (w' : World) : Prop :=
  ∃ (gs : List Hd) (vH vR vT : Value), e = .returned (.agg #[vH, vR, vT, .int .i64 c.fin, .int .i64 c.fuel, .int .i64 c.fan]) ∧ gs.length = c.programs.length ∧
    St (fun _ => False) w w' [Own 86 hcell 1 vH gs, Ows 123 Instr.cells 5 (gs.map Hd.val) c.programs, Own 87 Place.cells 5 vR c.lps, Own 97 Start.cells 4 vT c.starts]
/-- Lengths that a machine can hold. -/
structure MidW (c : Cfg) : Prop where
  p : c.programs.length * 24 ≤ 140737488351232
  l : c.lps.length * 40 ≤ 140737488351232
  s : c.starts.length * 32 ≤ 140737488351232
set_option maxRecDepth 100000 in
set_option maxHeartbeats 16000000 in
theorem cplainW_calls (vs hs : List Value) (c : Cfg) (w : World) (F : Nat → Prop) (h : (CfgA true vs hs c).at_ w F) (hm : MidW c) (hm2 : ∀ p ∈ c.programs, p.length * 40 ≤ 140737488351232) : Calls Tryd.prog 24 #[.agg vs.toArray] w (CPlainPost c w) := by
  have S : St (fun _ => False) w w [CfgA true vs hs c] := (St.init _ w).share rfl rfl h
  obtain ⟨aP, cP, aL, cL, aS, cS, rfl, hlen, S⟩ := S.cfg 0 rfl
  replace S := ((S.pick [0, 1, 2, 3] rfl).owsNil 123 Instr.cells 5).nil 86 hcell 1
  simp only [pick, nth] at S
  clear h
  have hp1 := hm.p
  have hp2 := hm.l
  have hp3 := hm.s
  clear hm
  go_enter Tryd.func24, Tryd.ntmps24
  go_upto_region 1 with first | ((with_reducible apply wps_boxa (E := 26) S); (case hx => rfl); clear S; intro bx wz S) | ((with_reducible apply wps_alloca (E := 37) S); (case hz => exact Tryd.zeroValue37); clear S; intro br wz S)
  go_wp2_with first | ((with_reducible apply wps_alloca (E := 37) S); (case hz => exact Tryd.zeroValue37); clear S; intro bo wz S) | ((with_reducible apply wps_storea (T := 37) S 0 (vs := [.slice none 0 0, .slice none 0 0, .slice none 0 0, .int .i64 c.fin, .int .i64 c.fuel, .int .i64 c.fan]) (m := 6)); (case hx | hy | hi | hm | h1 => rfl); (case hn => exact Nat.le_of_ble_eq_true rfl); (case hT => decide +kernel); clear S; intro wz S; simp only [List.set_cons_zero, List.set_cons_succ, setAll, List.setIfInBounds_toArray] at S) | ((with_reducible apply wps_load S 1); (case hx | hi | hu => rfl); (case hT => decide +kernel))
  replace S := S.pick [2, 5, 6, 0, 3, 4, 1, 7, 8] rfl
  simp only [pick, nth] at S
  go_loopw [4] (fun i wr => PcRel1 bx bo br (.slice aP c.programs.length cP) (.slice aL c.lps.length cL) (.slice aS c.starts.length cS) hs c w i wr) (fun i _ => c.programs.length - (intOf i).toNat)
  case atStart => exact ⟨0, [], none, 0, Nat.zero_le _, rfl, rfl, S⟩
  case round =>
    clear S
    obtain ⟨j, gs, adg, cg, hj, rfl, hgs, S⟩ := hrel
    by_cases hlt : j < c.programs.length
    · obtain ⟨p, hp⟩ : ∃ p, c.programs[j]? = some p := ⟨_, List.getElem?_eq_getElem hlt⟩
      obtain ⟨v, hv⟩ : ∃ v, hs[j]? = some v := ⟨_, List.getElem?_eq_getElem (by omega)⟩
      obtain ⟨R, o, rfl⟩ : ∃ R o, aP = some ⟨R, o, none⟩ := (S.sl 2 rfl).elim fun F h => h.head (by omega)
      have hlt2 : (j : Int) < c.programs.length := by omega
      have hpn := hm2 p (List.mem_of_getElem? hp)
      obtain ⟨av, cv, rfl, _⟩ := (S.sls 1 rfl).elim fun F h => (h.2 j v p hv hp).form
      have hgl : (gs.length + 1) * 24 ≤ 140737488355328 := by omega
      have Hp := Lib.hid hp
      have Hv := Lib.hid hv
      have Hgs := Lib.hid hgs
      clear hp hv hgs
      replace S := ((S.slsEl 1 rfl Hv.out Hp.out).pick [1, 2, 3, 0, 4, 5, 6, 7, 8, 9] rfl)
      simp only [pick, nth] at S
      go_wp2_with first | ((with_reducible apply wps_load S 0); (case hx | hi | hu => rfl); (case hT => decide +kernel))
      (refine wp_region_wt (soft := [0, 2, 3, 4, 5, 6]) (L := [_, _, _, _]) (T := [_, _, _, _, _, _]) S ?hm ?hB ?_); (case hm => kernel_rfl); (case hB => decide +kernel); clear S
      iterate 6
        (with_reducible apply softs_cons)
        (case hw =>
          (with_reducible apply soft_of); (case hi => rfl)
          intro T wz S
          simp only [List.cons_append, List.nil_append] at S
          go_wp2_with first | ((with_reducible apply wps_load_el S 2 (hj := Hv.out) (q := 0) (u := (.slice av p.length cv))); (case hx | hi => rfl); (case hn => omega); (case hu => rfl); (case hT => decide +kernel)) | ((with_reducible refine tot_done ?ht ?_); (case ht => kernel_rfl)) | ((with_reducible apply wps_load S 0); (case hx | hi | hu => rfl); (case hT => decide +kernel))
          exact ⟨rfl, S⟩)
        (case hs => exact ⟨_, rfl, by kernel_rfl⟩)
      refine softs_nil ?_
      repeat'
        (first
          | ((with_reducible apply W_hard1 (i := 1)); (case hn => rfl); (case hr => decide +kernel)) | ((with_reducible apply W_hard1 (i := 7)); (case hn => rfl); (case hr => decide +kernel)) | ((with_reducible apply W_hard1 (i := 8)); (case hn => rfl); (case hr => decide +kernel)) | ((with_reducible apply W_hard1 (i := 9)); (case hn => rfl); (case hr => decide +kernel)) | ((with_reducible apply W_hard1 (i := 10)); (case hn => rfl); (case hr => decide +kernel)) | ((with_reducible apply W_hard1 (i := 11)); (case hn => rfl); (case hr => decide +kernel)) | ((with_reducible apply W_hard2 (i := 1) (i' := 7)); (case hn => rfl); (case hr => decide +kernel)) | ((with_reducible apply W_hard2 (i := 1) (i' := 8)); (case hn => rfl); (case hr => decide +kernel)) | ((with_reducible apply W_hard2 (i := 10) (i' := 11)); (case hn => rfl); (case hr => decide +kernel)))
        all_goals
          intro wz S
          (with_reducible apply hard_of); (case hi => rfl)
          simp only [List.cons_append, List.nil_append] at S
          try simp only [pick, nth] at S
          go_wp2_with first | (go_at_call 41; refine Calls.mono (lplain_calls _ p _ _ (S.get (i := 3) rfl).choose_spec hpn) ?_; rintro e wz ⟨azi, czi, rfl, T⟩; replace S := S.join T rfl; clear T; simp only [List.cons_append, List.nil_append] at S) | ((with_reducible apply wps_buildSlice (T := 33) (E := 86) (cs := #[.slice azi p.length czi]) S); (case hr => intro w; kernel_rfl); clear S; intro bz wz S) | ((with_reducible apply wps_append1B elem_RHd hcells hone (by decide) S 5 (j := 11) (e := (⟨azi,p.length,czi⟩:Hd))); (case hx | hy | hi | hj | he => rfl); (case hl => first | omega | (simp; omega)); clear S; intro az nz cz wz hnz S; simp only [List.set_cons_succ, List.set_cons_zero] at S) | ((with_reducible apply wps_store (u := (.slice az nz cz)) S 4); (case hx | hy | hi | h1 => rfl); (case hn => exact Nat.le_of_ble_eq_true rfl); (case hT => decide +kernel); clear S; intro wz S; simp only [List.set_cons_succ, List.set_cons_zero, List.setIfInBounds_toArray] at S) | ((with_reducible refine tot_done ?ht ?_); (case ht => kernel_rfl)) | ((with_reducible apply wps_load S 4); (case hx | hi | hu => rfl); (case hT => decide +kernel))
          first
            | refine ⟨_, S.pick [1, 2, 3, 4, 5, 6, 7, 8, 9, 10, 11, 12, 0] rfl, ?_⟩
            | refine ⟨_, S.pick [1, 2, 3, 4, 5, 6, 7, 8, 9, 10, 11, 0] rfl, ?_⟩
            | refine ⟨_, S.pick [1, 2, 3, 4, 5, 6, 7, 8, 9, 10, 0] rfl, ?_⟩
            | refine ⟨_, S.pick [1, 2, 3, 4, 5, 6, 7, 8, 9, 0] rfl, ?_⟩
            | refine ⟨_, S.pick [1, 2, 3, 4, 5, 6, 7, 8, 0] rfl, ?_⟩
            | refine ⟨_, S.pick [1, 2, 3, 4, 5, 6, 7, 0] rfl, ?_⟩
            | refine ⟨_, S.pick [1, 2, 3, 4, 5, 6, 0] rfl, ?_⟩
            | refine ⟨_, S.pick [1, 2, 3, 4, 5, 0] rfl, ?_⟩
            | refine ⟨_, S.pick [1, 2, 3, 4, 0] rfl, ?_⟩
            | refine ⟨_, S, ?_⟩
      all_goals
        (with_reducible apply W_done); (case hn => rfl); (case hr => decide +kernel)
        clear S
        intro wz S
        simp only [List.cons_append, List.nil_append] at S
        try simp only [pick, nth] at S
        obtain rfl : nz = j + 1 := by rw [hnz.out, Hgs.out]
        replace S := ((S.pick [10, 6, 0, 1, 2, 4, 5, 7, 8, 9] rfl).owsSnoc.pick [1, 2, 3, 4, 5, 0, 6, 7, 8] rfl)
        simp only [pick, nth] at S
        go_wp2_with first | ((with_reducible apply wps_loada (T := 96) (k := 4) S 0); (case hx | hi => rfl); (case hk => exact Nat.le_of_ble_eq_true rfl); (case hT => decide +kernel))
        go_roundw
        case rel =>
          refine ⟨j + 1, gs ++ [⟨azi, p.length, czi⟩], az, cz, by omega, by go_num, by simp [Hgs.out], ?_⟩
          have ht : c.programs.take (j + 1) = c.programs.take j ++ [p] := by rw [List.take_add_one, Hp.out]; rfl
          have hmap : (gs ++ [(⟨azi, p.length, czi⟩ : Hd)]).map Hd.val = gs.map Hd.val ++ [.slice azi p.length czi] := by simp [Hd.val]
          rw [ht, hmap]
          exact S
        case measure => first | (simp [intOf]; done) | (simp [intOf]; omega)
    · obtain rfl : j = c.programs.length := by omega
      rw [List.take_length] at S
      replace S := (S.pick [3, 0, 7, 8, 4, 5, 6] rfl).nil 87 Place.cells 5
      replace S := S.pick [1, 0, 2, 3, 4, 5, 6, 7] rfl
      simp only [pick, nth] at S
      go_wp2_with first | ((with_reducible apply wps_load S 2); (case hx | hi | hu => rfl); (case hT => decide +kernel))
      go_loopw [5] (fun i wr => PcRel2 bx bo br (.slice aP c.programs.length cP) (.slice aL c.lps.length cL) (.slice aS c.starts.length cS) (.slice adg c.programs.length cg) gs c w i wr) (fun i _ => c.lps.length - (intOf i).toNat)
      case atStart => exact ⟨0, none, 0, Nat.zero_le _, rfl, S⟩
      case round =>
        clear S
        obtain ⟨j, adr, cr, hj, rfl, S⟩ := hrel
        by_cases hlt : j < c.lps.length
        · obtain ⟨l, hl⟩ : ∃ l, c.lps[j]? = some l := ⟨_, List.getElem?_eq_getElem hlt⟩
          obtain ⟨R, o, rfl⟩ : ∃ R o, aL = some ⟨R, o, none⟩ := (S.sl 3 rfl).elim fun F h => h.head (by omega)
          have hlt2 : (j : Int) < c.lps.length := by omega
          have ht : Hid (c.lps.take (j + 1) = c.lps.take j ++ [l]) := by show _ = _; rw [List.take_add_one, hl]; rfl
          have htl : ((c.lps.take j).length + 1) * 40 ≤ 140737488355328 := by rw [List.length_take, Nat.min_eq_left hj]; omega
          have Htl : Hid ((c.lps.take j).length = j) := by show _ = _; simp; omega
          have Hl := Lib.hid hl
          clear hl
          go_wp2_with first | ((with_reducible apply wps_load_el S 3 (hj := Hl.out) (q := 0) (u := .int .i64 l.program)); (case hx | hi => rfl); (case hn => omega); (case hu => rfl); (case hT => decide +kernel)) | ((with_reducible apply wps_loada_el S 3 (hj := Hl.out) (q := 1) (vs := [.int .i64 l.first.n0, .int .i64 l.first.n1, .int .i64 l.first.n2, .int .i64 l.first.n3]) (m := 4)); (case hx | hi => rfl); (case hn => omega); (case hm | hv => rfl); (case hT => decide +kernel)) | ((with_reducible apply wps_build1a (T := 34) (E := 87) S); (case hx => rfl); (case hr => intro w; kernel_rfl); clear S; intro bz wz S) | ((with_reducible apply wps_append1B elem_RPl plcells plone (by decide) S 2 (j := 0) (e := l)); (case hx | hy | hi | hj | he => rfl); (case hl => first | omega | (simp; omega)); clear S; intro az nz cz wz hnz S; simp only [List.set_cons_succ, List.set_cons_zero] at S) | ((with_reducible apply wps_store (u := (.slice az nz cz)) S 1); (case hx | hy | hi | h1 => rfl); (case hn => exact Nat.le_of_ble_eq_true rfl); (case hT => decide +kernel); clear S; intro wz S; simp only [List.set_cons_succ, List.set_cons_zero, List.setIfInBounds_toArray] at S) | ((with_reducible refine tot_done ?ht ?_); (case ht => kernel_rfl)) | ((with_reducible apply wps_text S); (case hm => kernel_rfl); (case hB => decide +kernel); clear S; intro wz S) | ((with_reducible apply wps_load S 0); (case hx | hi | hu => rfl); (case hT => decide +kernel)) | ((with_reducible apply wps_load S 2); (case hx | hi | hu => rfl); (case hT => decide +kernel))
          obtain rfl : nz = j + 1 := by rw [hnz.out, Htl.out]
          go_roundw
          case rel => exact ⟨j + 1, az, cz, by omega, by go_num, by rw [ht.out]; exact S.pick [1, 2, 3, 4, 5, 6, 7, 8] rfl⟩
          case measure => first | (simp [intOf]; done) | (simp [intOf]; omega)
        · obtain rfl : j = c.lps.length := by omega
          rw [List.take_length] at S
          replace S := (S.pick [0, 2, 4, 1, 5, 6, 7] rfl).nil 97 Start.cells 4
          replace S := S.pick [1, 0, 2, 3, 4, 5, 6, 7] rfl
          simp only [pick, nth] at S
          go_wp2_with first | ((with_reducible apply wps_load S 2); (case hx | hi | hu => rfl); (case hT => decide +kernel))
          go_loopw [6] (fun i wr => PcRel3 bx bo br (.slice aP c.programs.length cP) (.slice aL c.lps.length cL) (.slice aS c.starts.length cS) (.slice adg c.programs.length cg) (.slice adr c.lps.length cr) gs c w i wr) (fun i _ => c.starts.length - (intOf i).toNat)
          case atStart => exact ⟨0, none, 0, Nat.zero_le _, rfl, S⟩
          case round =>
            clear S
            obtain ⟨j, adt, ct, hj, rfl, S⟩ := hrel
            by_cases hlt : j < c.starts.length
            · obtain ⟨l, hl⟩ : ∃ l, c.starts[j]? = some l := ⟨_, List.getElem?_eq_getElem hlt⟩
              obtain ⟨R, o, rfl⟩ : ∃ R o, aS = some ⟨R, o, none⟩ := (S.sl 3 rfl).elim fun F h => h.head (by omega)
              have hlt2 : (j : Int) < c.starts.length := by omega
              have ht : Hid (c.starts.take (j + 1) = c.starts.take j ++ [l]) := by show _ = _; rw [List.take_add_one, hl]; rfl
              have htl : ((c.starts.take j).length + 1) * 32 ≤ 140737488355328 := by rw [List.length_take, Nat.min_eq_left hj]; omega
              have Htl : Hid ((c.starts.take j).length = j) := by show _ = _; simp; omega
              have Hl := Lib.hid hl
              clear hl
              go_wp2_with first | ((with_reducible apply wps_alloca (E := 96) S); (case hz => exact Tryd.zeroValue96); clear S; intro bz wz S) | ((with_reducible apply wps_loada_el S 3 (hj := Hl.out) (q := 0) (vs := [.int .i64 l.dst, .int .i64 l.at_, .int .i64 l.kind, .int .i64 l.data]) (m := 4)); (case hx | hi => rfl); (case hn => omega); (case hm | hv => rfl); (case hT => decide +kernel)) | ((with_reducible apply wps_storea (T := 96) S 0 (vs := [.int .i64 l.dst, .int .i64 l.at_, .int .i64 l.kind, .int .i64 l.data]) (m := 4)); (case hx | hy | hi | hm | h1 => rfl); (case hn => exact Nat.le_of_ble_eq_true rfl); (case hT => decide +kernel); clear S; intro wz S; simp only [List.set_cons_zero, List.set_cons_succ, setAll, List.setIfInBounds_toArray] at S) | ((with_reducible apply wps_build1a (T := 35) (E := 97) S); (case hx => rfl); (case hr => intro w; kernel_rfl); clear S; intro bz wz S) | ((with_reducible apply wps_append1B elem_RSta stcells stone (by decide) S 3 (j := 0) (e := l)); (case hx | hy | hi | hj | he => rfl); (case hl => first | omega | (simp; omega)); clear S; intro az nz cz wz hnz S; simp only [List.set_cons_succ, List.set_cons_zero] at S) | ((with_reducible apply wps_store (u := (.slice az nz cz)) S 2); (case hx | hy | hi | h1 => rfl); (case hn => exact Nat.le_of_ble_eq_true rfl); (case hT => decide +kernel); clear S; intro wz S; simp only [List.set_cons_succ, List.set_cons_zero, List.setIfInBounds_toArray] at S) | ((with_reducible apply wps_load S 0); (case hx | hi | hu => rfl); (case hT => decide +kernel)) | ((with_reducible apply wps_load S 1); (case hx | hi | hu => rfl); (case hT => decide +kernel)) | ((with_reducible apply wps_load S 2); (case hx | hi | hu => rfl); (case hT => decide +kernel))
              obtain rfl : nz = j + 1 := by rw [hnz.out, Htl.out]
              go_roundw
              case rel => exact ⟨j + 1, az, cz, by omega, by go_num, by rw [ht.out]; exact S.pick [2, 3, 4, 5, 6, 7, 8, 9] rfl⟩
              case measure => first | (simp [intOf]; done) | (simp [intOf]; omega)
            · obtain rfl : j = c.starts.length := by omega
              rw [List.take_length] at S
              go_wp2_with first | ((with_reducible apply wps_storea (T := 37) S 7 (vs := [.slice adg c.programs.length cg, .slice adr c.lps.length cr, .slice adt c.starts.length ct, .int .i64 c.fin, .int .i64 c.fuel, .int .i64 c.fan]) (m := 6)); (case hx | hy | hi | hm | h1 => rfl); (case hn => exact Nat.le_of_ble_eq_true rfl); (case hT => decide +kernel); clear S; intro wz S; simp only [List.set_cons_zero, List.set_cons_succ, setAll, List.setIfInBounds_toArray] at S) | ((with_reducible apply wps_loada (T := 37) (k := 6) S 0); (case hx | hi => rfl); (case hk => exact Nat.le_of_ble_eq_true rfl); (case hT => decide +kernel)) | ((with_reducible apply wps_load S 2); (case hx | hi | hu => rfl); (case hT => decide +kernel))
              (try simp only [Exit.inBlock, Exit.then]); (with_reducible apply S.ret_cell 7); (case hi | h | hp => rfl); (case hA => kernel_rfl); (case hd => rfl)
              exact ⟨gs, _, _, _, rfl, hgs, S.pick [5, 6, 4, 1] rfl⟩
end Go.Proofs.YtfiiaechippboaaDoor
/- The walks of the reference's Check of programs and of configurations. -/
namespace Go.Proofs.YtfiiaechippboaaDoor
open Go Go.RowKit Reg Mem

def RCodeRel (v : Value) (p : List Instr) (w : World) (i : Value) (wr : World) : Prop :=
  ∃ j : Nat, j ≤ p.length ∧ i = .int .i64 j ∧ Hid (∀ (q : Nat) y, q < j → p[q]? = some y → mayE y p.length = 0) ∧ St (fun _ => False) w wr [Sl true Instr.cells 5 v p]
set_option maxRecDepth 100000 in
set_option maxHeartbeats 4000000 in
theorem rcode_calls (v : Value) (p : List Instr) (w : World) (F : Nat → Prop) (h : (Sl true Instr.cells 5 v p).at_ w F) : Calls Tryd.prog 42 #[v] w fun r w' => r = .returned (.tuple #[.int .i64 (codeAt p), .int .i64 (codeE p)]) ∧ Below w.heap.size w w' := by
  have S : St (fun _ => False) w w [Sl true Instr.cells 5 v p] := (St.init _ w).share rfl rfl h
  obtain ⟨ad, cp, rfl, _⟩ := (S.sl 0 rfl).elim fun _ h => h.form
  clear h
  by_cases g1 : (64 : Int) < p.length
  · have HE : Hid (codeAt p = 0 ∧ codeE p = 11) := ⟨by unfold codeAt; rw [if_pos (by omega)], by unfold codeE; rw [if_pos (by omega)]⟩
    go_enter Tryd.func42, Tryd.ntmps42
    go_wp2_with first | ((with_reducible apply wps_loada (T := 123) (k := 5) S 0); (case hx | hi => rfl); (case hk => exact Nat.le_of_ble_eq_true rfl); (case hT => decide +kernel))
    go_ret2
    exact ⟨by simp [HE.out.1, HE.out.2], S.below⟩
  · have HE : Hid (codeAt p = whereE (p.map (mayE · p.length)) 0 ∧ codeE p = firstE (p.map (mayE · p.length))) := ⟨by unfold codeAt; rw [if_neg (by omega)], by unfold codeE; rw [if_neg (by omega)]⟩
    go_enter Tryd.func42, Tryd.ntmps42
    go_wp2_with first | ((with_reducible apply wps_loada (T := 123) (k := 5) S 0); (case hx | hi => rfl); (case hk => exact Nat.le_of_ble_eq_true rfl); (case hT => decide +kernel))
    go_loopw [4] (fun i wr => RCodeRel (.slice ad p.length cp) p w i wr) (fun i _ => p.length - (intOf i).toNat)
    case atStart => exact ⟨0, Nat.zero_le _, rfl, fun q y h => by omega, S⟩
    case round =>
      clear S
      obtain ⟨j, hj, rfl, Hz, S⟩ := hrel
      by_cases hlt : j < p.length
      · obtain ⟨x, hx⟩ : ∃ x, p[j]? = some x := ⟨_, List.getElem?_eq_getElem hlt⟩
        obtain ⟨R, o, rfl⟩ : ∃ R o, ad = some ⟨R, o, none⟩ := (S.sl 0 rfl).elim fun F h => h.head (by omega)
        have hlt2 : (j : Int) < p.length := by omega
        have hc := rmay_calls x p.length
        obtain ⟨m, hm⟩ : ∃ m, mayE x p.length = m := ⟨_, rfl⟩
        rw [hm] at hc
        have Hx := Lib.hid hx
        have Hm := Lib.hid hm
        have Hc := Lib.hid hc
        clear hx hm hc
        by_cases h0 : m = 0
        · subst h0
          go_wp2_with first | ((with_reducible apply wps_loada_el S 0 (hj := Hx.out) (q := 0) (vs := [.int .i64 x.op, .int .i64 x.a, .int .i64 x.b, .int .i64 x.c, .int .i64 x.d]) (m := 5)); (case hx | hi => rfl); (case hn => omega); (case hm | hv => rfl); (case hT => decide +kernel)) | (go_at_call 59; refine Calls.mono (Hc.out _) ?_; rintro e wz ⟨rfl, hE⟩; replace S := S.ext (Keep.of_below hE); clear hE)
          go_roundw
          case rel =>
            refine ⟨j + 1, by omega, by go_num, fun q y hq hy => ?_, S⟩
            by_cases e : q = j
            · subst e; rw [Hx.out] at hy; cases hy; exact Hm.out
            · exact Hz.out q y (by omega) hy
          case measure => first | (simp [intOf]; done) | (simp [intOf]; omega)
        · have h1 : (m != 0) = true := by simpa using h0
          have H0 := Lib.hid h0
          clear h0
          go_wp2_with first | ((with_reducible apply wps_loada_el S 0 (hj := Hx.out) (q := 0) (vs := [.int .i64 x.op, .int .i64 x.a, .int .i64 x.b, .int .i64 x.c, .int .i64 x.d]) (m := 5)); (case hx | hi => rfl); (case hn => omega); (case hm | hv => rfl); (case hT => decide +kernel)) | (go_at_call 59; refine Calls.mono (Hc.out _) ?_; rintro e wz ⟨rfl, hE⟩; replace S := S.ext (Keep.of_below hE); clear hE)
          go_ret2
          have hz : ∀ (q : Nat) y, q < j → (p.map (mayE · p.length))[q]? = some y → y = 0 := fun q y hq hy => by
            rw [List.getElem?_map] at hy
            cases hp : p[q]? with
            | none => rw [hp] at hy; cases hy
            | some z => rw [hp] at hy; simp at hy; subst hy; exact Hz.out q z hq hp
          have hx : (p.map (mayE · p.length))[j]? = some m := by rw [List.getElem?_map, Hx.out]; simp [Hm.out]
          refine ⟨?_, S.below⟩
          rw [HE.out.1, HE.out.2, whereE_at hz hx H0.out, firstE_at hz hx H0.out]
          simp
      · obtain rfl : j = p.length := by omega
        go_wp2_with first | ((with_reducible apply wps_loada (T := 123) (k := 5) S 0); (case hx | hi => rfl); (case hk => exact Nat.le_of_ble_eq_true rfl); (case hT => decide +kernel))
        go_ret2
        refine ⟨?_, S.below⟩
        have hz : ∀ (q : Nat) y, (p.map (mayE · p.length))[q]? = some y → y = 0 := fun q y hy => by
          rw [List.getElem?_map] at hy
          cases hp : p[q]? with
          | none => rw [hp] at hy; cases hy
          | some z => rw [hp] at hy; simp at hy; subst hy; exact Hz.out q z (List.getElem?_eq_some_iff.1 hp).1 hp
        rw [HE.out.1, HE.out.2, firstE_none hz, whereE_none (fun x hx => by obtain ⟨q, hq, rfl⟩ := List.mem_iff_getElem.1 hx; exact hz q _ (List.getElem?_eq_getElem hq))]
        simp
theorem cfg_sizes {c : Cfg} (h : ¬ sizesOk c) : cfgE c = 10 := by
  unfold cfgE; rw [show sizesE c = 10 from if_neg h]; rfl
theorem cfg_starts {c : Cfg} (h : sizesOk c) (h2 : 256 < c.starts.length) : cfgE c = 11 := by
  unfold cfgE; rw [show sizesE c = 0 from if_pos h, show startsE c = 11 from if_pos h2]; rfl
theorem cfg_prog {c : Cfg} (h : sizesOk c) (h2 : ¬ 256 < c.starts.length) {m : Int} (h3 : programsE c = m) (h4 : m ≠ 0) : cfgE c = m := by
  unfold cfgE; rw [show sizesE c = 0 from if_pos h, show startsE c = 0 from if_neg h2, h3]; simp [firstE, h4]
theorem cfg_ends {c : Cfg} (h : sizesOk c) (h2 : ¬ 256 < c.starts.length) (h3 : programsE c = 0) (h4 : ¬ ((∀ p ∈ c.lps, 0 ≤ p.program ∧ p.program < c.programs.length) ∧ (∀ s ∈ c.starts, 0 ≤ s.dst ∧ s.dst < c.lps.length))) : cfgE c = 14 := by
  unfold cfgE; rw [show sizesE c = 0 from if_pos h, show startsE c = 0 from if_neg h2, h3, show endsE c = 14 from if_neg h4]; rfl
theorem cfg_times {c : Cfg} (h : sizesOk c) (h2 : ¬ 256 < c.starts.length) (h3 : programsE c = 0) (h4 : (∀ p ∈ c.lps, 0 ≤ p.program ∧ p.program < c.programs.length) ∧ (∀ s ∈ c.starts, 0 ≤ s.dst ∧ s.dst < c.lps.length)) (h5 : ¬ ∀ s ∈ c.starts, 0 ≤ s.at_ ∧ s.at_ ≤ c.fin) : cfgE c = 18 := by
  unfold cfgE; rw [show sizesE c = 0 from if_pos h, show startsE c = 0 from if_neg h2, h3, show endsE c = 0 from if_pos h4, show timesE c = 18 from if_neg h5]; rfl
theorem cfg_fine {c : Cfg} (h : sizesOk c) (h2 : ¬ 256 < c.starts.length) (h3 : programsE c = 0) (h4 : (∀ p ∈ c.lps, 0 ≤ p.program ∧ p.program < c.programs.length) ∧ (∀ s ∈ c.starts, 0 ≤ s.dst ∧ s.dst < c.lps.length)) (h5 : ∀ s ∈ c.starts, 0 ≤ s.at_ ∧ s.at_ ≤ c.fin) : cfgE c = 0 := by
  unfold cfgE; rw [show sizesE c = 0 from if_pos h, show startsE c = 0 from if_neg h2, h3, show endsE c = 0 from if_pos h4, show timesE c = 0 from if_pos h5]; rfl
end Go.Proofs.YtfiiaechippboaaDoor
/- The walk of the reference's Check of configurations. -/
namespace Go.Proofs.YtfiiaechippboaaDoor
open Go Go.RowKit Reg Mem

def RcRel (bx : Nat) (vP vL vS : Value) (hs : List Value) (c : Cfg) (n : Nat) (D : Nat → Prop) (w : World) (i : Value) (wr : World) : Prop :=
  ∃ j : Nat, j ≤ n ∧ i = .int .i64 j ∧ Hid (D j) ∧ St (fun _ => False) w wr [Blk false bx #[vP, vL, vS, .int .i64 c.fin, .int .i64 c.fuel, .int .i64 c.fan] 37, Sls true Instr.cells 5 hs c.programs, Sl true vcell 1 vP hs, Sl true Place.cells 5 vL c.lps, Sl true Start.cells 4 vS c.starts]
set_option maxRecDepth 100000 in
set_option maxHeartbeats 16000000 in
theorem refcheck_calls (vs hs : List Value) (c : Cfg) (w : World) (F : Nat → Prop) (h : (CfgA true vs hs c).at_ w F) (hm : Mid c) : Calls Tryd.prog 26 #[.agg vs.toArray] w fun r w' => r = .returned (.int .i64 (cfgE c)) ∧ Below w.heap.size w w' := by
  have S : St (fun _ => False) w w [CfgA true vs hs c] := (St.init _ w).share rfl rfl h
  obtain ⟨aP, cP, aL, cL, aS, cS, rfl, hlen, S⟩ := S.cfg 0 rfl
  replace S := S.pick [0, 1, 2, 3] rfl
  simp only [pick, nth] at S
  clear h
  have hp1 := hm.p
  have hp2 := hm.l
  have hp3 := hm.s
  clear hm
  by_cases hz : sizesOk c
  case neg =>
    have HE := Lib.hid (cfg_sizes hz)
    unfold sizesOk at hz
    by_cases g0 : (c.lps.length : Int) < 1
    · go_enter Tryd.func26, Tryd.ntmps26
      go_wp2_with first | go_skip | ((with_reducible apply wps_boxa S); (case hx => rfl); clear S; intro bx wz S) | ((with_reducible apply wps_load S 0); (case hx | hi | hu => rfl); (case hT => decide +kernel))
      go_ret
      exact ⟨ret_int HE.out.symm, S.below⟩
    by_cases g1 : (32 : Int) < c.lps.length
    · go_enter Tryd.func26, Tryd.ntmps26
      go_wp2_with first | go_skip | ((with_reducible apply wps_boxa S); (case hx => rfl); clear S; intro bx wz S) | ((with_reducible apply wps_load S 0); (case hx | hi | hu => rfl); (case hT => decide +kernel))
      go_ret
      exact ⟨ret_int HE.out.symm, S.below⟩
    by_cases g2 : (c.programs.length : Int) < 1
    · go_enter Tryd.func26, Tryd.ntmps26
      go_wp2_with first | go_skip | ((with_reducible apply wps_boxa S); (case hx => rfl); clear S; intro bx wz S) | ((with_reducible apply wps_load S 0); (case hx | hi | hu => rfl); (case hT => decide +kernel))
      go_ret
      exact ⟨ret_int HE.out.symm, S.below⟩
    by_cases g3 : (32 : Int) < c.programs.length
    · go_enter Tryd.func26, Tryd.ntmps26
      go_wp2_with first | go_skip | ((with_reducible apply wps_boxa S); (case hx => rfl); clear S; intro bx wz S) | ((with_reducible apply wps_load S 0); (case hx | hi | hu => rfl); (case hT => decide +kernel))
      go_ret
      exact ⟨ret_int HE.out.symm, S.below⟩
    by_cases g4 : c.fin < 1
    · go_enter Tryd.func26, Tryd.ntmps26
      go_wp2_with first | go_skip | ((with_reducible apply wps_boxa S); (case hx => rfl); clear S; intro bx wz S) | ((with_reducible apply wps_load S 0); (case hx | hi | hu => rfl); (case hT => decide +kernel))
      go_ret
      exact ⟨ret_int HE.out.symm, S.below⟩
    by_cases g5 : 1073741824 < c.fin
    · go_enter Tryd.func26, Tryd.ntmps26
      go_wp2_with first | go_skip | ((with_reducible apply wps_boxa S); (case hx => rfl); clear S; intro bx wz S) | ((with_reducible apply wps_load S 0); (case hx | hi | hu => rfl); (case hT => decide +kernel))
      go_ret
      exact ⟨ret_int HE.out.symm, S.below⟩
    by_cases g6 : c.fuel < 1
    · go_enter Tryd.func26, Tryd.ntmps26
      go_wp2_with first | go_skip | ((with_reducible apply wps_boxa S); (case hx => rfl); clear S; intro bx wz S) | ((with_reducible apply wps_load S 0); (case hx | hi | hu => rfl); (case hT => decide +kernel))
      go_ret
      exact ⟨ret_int HE.out.symm, S.below⟩
    by_cases g7 : 1024 < c.fuel
    · go_enter Tryd.func26, Tryd.ntmps26
      go_wp2_with first | go_skip | ((with_reducible apply wps_boxa S); (case hx => rfl); clear S; intro bx wz S) | ((with_reducible apply wps_load S 0); (case hx | hi | hu => rfl); (case hT => decide +kernel))
      go_ret
      exact ⟨ret_int HE.out.symm, S.below⟩
    by_cases g8 : c.fan < 0
    · go_enter Tryd.func26, Tryd.ntmps26
      go_wp2_with first | go_skip | ((with_reducible apply wps_boxa S); (case hx => rfl); clear S; intro bx wz S) | ((with_reducible apply wps_load S 0); (case hx | hi | hu => rfl); (case hT => decide +kernel))
      go_ret
      exact ⟨ret_int HE.out.symm, S.below⟩
    by_cases g9 : 8 < c.fan
    · go_enter Tryd.func26, Tryd.ntmps26
      go_wp2_with first | ((with_reducible apply wps_boxa S); (case hx => rfl); clear S; intro bx wz S) | ((with_reducible apply wps_load S 0); (case hx | hi | hu => rfl); (case hT => decide +kernel))
      go_ret
      exact ⟨ret_int HE.out.symm, S.below⟩
    exfalso
    apply hz
    omega
  case pos =>
    have HZ := Lib.hid hz
    unfold sizesOk at hz
    have z1 : ¬ (c.lps.length : Int) < 1 := by omega
    have z2 : ¬ (32 : Int) < c.lps.length := by omega
    have z3 : ¬ (c.programs.length : Int) < 1 := by omega
    have z4 : ¬ (32 : Int) < c.programs.length := by omega
    have z5 : ¬ c.fin < 1 := by omega
    have z6 : ¬ 1073741824 < c.fin := by omega
    have z7 : ¬ c.fuel < 1 := by omega
    have z8 : ¬ 1024 < c.fuel := by omega
    have z9 : ¬ c.fan < 0 := by omega
    have z10 : ¬ 8 < c.fan := by omega
    clear hz
    by_cases gs : (256 : Int) < c.starts.length
    · have HE := Lib.hid (cfg_starts HZ.out (by omega))
      go_enter Tryd.func26, Tryd.ntmps26
      go_wp2_with first | ((with_reducible apply wps_boxa S); (case hx => rfl); clear S; intro bx wz S) | ((with_reducible apply wps_load S 0); (case hx | hi | hu => rfl); (case hT => decide +kernel))
      go_ret
      exact ⟨ret_int HE.out.symm, S.below⟩
    have gs2 : ¬ 256 < c.starts.length := by omega
    go_enter Tryd.func26, Tryd.ntmps26
    go_wp2_with first | ((with_reducible apply wps_boxa S); (case hx => rfl); clear S; intro bx wz S) | ((with_reducible apply wps_load S 0); (case hx | hi | hu => rfl); (case hT => decide +kernel))
    clear z1 z2 z3 z4 z5 z6 z7 z8 z9 z10
    go_loopw [3] (fun i wr => RcRel bx (.slice aP c.programs.length cP) (.slice aL c.lps.length cL) (.slice aS c.starts.length cS) hs c c.programs.length (fun j => ∀ (q : Nat) y, q < j → c.programs[q]? = some y → codeE y = 0) w i wr) (fun i _ => c.programs.length - (intOf i).toNat)
    case atStart => exact ⟨0, Nat.zero_le _, rfl, fun q y h => by omega, S⟩
    case round =>
      clear S
      obtain ⟨j, hj, rfl, Hz, S⟩ := hrel
      by_cases hlt : j < c.programs.length
      · obtain ⟨p, hp⟩ : ∃ p, c.programs[j]? = some p := ⟨_, List.getElem?_eq_getElem hlt⟩
        obtain ⟨v, hv⟩ : ∃ v, hs[j]? = some v := ⟨_, List.getElem?_eq_getElem (by omega)⟩
        obtain ⟨R, o, rfl⟩ : ∃ R o, aP = some ⟨R, o, none⟩ := (S.sl 2 rfl).elim fun F h => h.head (by omega)
        have hlt2 : (j : Int) < c.programs.length := by omega
        obtain ⟨m, hm⟩ : ∃ m, codeE p = m := ⟨_, rfl⟩
        have hc := fun w F h => rcode_calls v p w F h
        rw [hm] at hc
        have Hp := Lib.hid hp
        have Hv := Lib.hid hv
        have Hc := Lib.hid hc
        have Hm := Lib.hid hm
        clear hp hv hc hm
        by_cases h0 : m = 0
        · subst h0
          go_wp2_with first | ((with_reducible apply wps_load_el S 2 (hj := Hv.out) (q := 0) (u := v)); (case hx | hi => rfl); (case hn => omega); (case hu => rfl); (case hT => decide +kernel)) | (go_at_call 42; refine Calls.mono (Hc.out _ _ ((S.slsEl 1 rfl Hv.out Hp.out).get (i := 0) rfl).choose_spec) ?_; rintro e wz ⟨rfl, hE⟩; replace S := S.ext (Keep.of_below hE); clear hE) | ((with_reducible apply wps_load S 0); (case hx | hi | hu => rfl); (case hT => decide +kernel))
          go_roundw
          case rel => exact ⟨j + 1, by omega, by go_num, snoc_all Hz.out Hp.out Hm.out, S⟩
          case measure => first | (simp [intOf]; done) | (simp [intOf]; omega)
        · have h1 : (m != 0) = true := by simpa using h0
          have H0 := Lib.hid h0
          clear h0
          go_wp2_with first | ((with_reducible apply wps_load_el S 2 (hj := Hv.out) (q := 0) (u := v)); (case hx | hi => rfl); (case hn => omega); (case hu => rfl); (case hT => decide +kernel)) | (go_at_call 42; refine Calls.mono (Hc.out _ _ ((S.slsEl 1 rfl Hv.out Hp.out).get (i := 0) rfl).choose_spec) ?_; rintro e wz ⟨rfl, hE⟩; replace S := S.ext (Keep.of_below hE); clear hE) | ((with_reducible apply wps_load S 0); (case hx | hi | hu => rfl); (case hT => decide +kernel))
          go_ret
          refine ⟨ret_int (cfg_prog HZ.out gs2 ?_ H0.out).symm, S.below⟩
          refine firstE_at (j := j) (fun q y hq hy => ?_) (by rw [List.getElem?_map, Hp.out]; simp [Hm.out]) H0.out
          rw [List.getElem?_map] at hy
          cases hp : c.programs[q]? with
          | none => rw [hp] at hy; cases hy
          | some z => rw [hp] at hy; simp at hy; subst hy; exact Hz.out q z hq hp
      · obtain rfl : j = c.programs.length := by omega
        have H3 : Hid (programsE c = 0) := firstE_zero.2 fun x hx => by
          obtain ⟨p, hp, rfl⟩ := List.mem_map.1 hx
          exact all_of Hz.out p hp
        clear Hz
        go_wp2_with first | ((with_reducible apply wps_load S 0); (case hx | hi | hu => rfl); (case hT => decide +kernel))
        go_loopw [6] (fun i wr => RcRel bx (.slice aP c.programs.length cP) (.slice aL c.lps.length cL) (.slice aS c.starts.length cS) hs c c.lps.length (fun j => ∀ (q : Nat) y, q < j → c.lps[q]? = some y → 0 ≤ y.program ∧ y.program < c.programs.length) w i wr) (fun i _ => c.lps.length - (intOf i).toNat)
        case atStart => exact ⟨0, Nat.zero_le _, rfl, fun q y h => by omega, S⟩
        case round =>
          clear S
          obtain ⟨j, hj, rfl, Hz, S⟩ := hrel
          by_cases hlt : j < c.lps.length
          · obtain ⟨p, hp⟩ : ∃ p, c.lps[j]? = some p := ⟨_, List.getElem?_eq_getElem hlt⟩
            obtain ⟨R, o, rfl⟩ : ∃ R o, aL = some ⟨R, o, none⟩ := (S.sl 3 rfl).elim fun F h => h.head (by omega)
            have hlt2 : (j : Int) < c.lps.length := by omega
            have Hp := Lib.hid hp
            clear hp
            by_cases g1 : p.program < 0
            · go_wp2_with first | ((with_reducible refine wpList_skip ?hw ?_); (case hw => with_unfolding_all rfl); simp only [Act.put, List.setIfInBounds_toArray, List.set_cons_succ, List.set_cons_zero]) | ((with_reducible apply wps_load_el S 3 (hj := Hp.out) (q := 0) (u := .int .i64 p.program)); (case hx | hi => rfl); (case hn => omega); (case hu => rfl); (case hT => decide +kernel)) | ((with_reducible refine tot_done ?ht ?_); (case ht => kernel_rfl)) | ((with_reducible apply wps_text S); (case hm => kernel_rfl); (case hB => decide +kernel); clear S; intro wz S) | ((with_reducible apply wps_load S 0); (case hx | hi | hu => rfl); (case hT => decide +kernel))
              go_ret
              exact ⟨ret_int (cfg_ends HZ.out gs2 H3.out (by rintro ⟨h, _⟩; have := (h p (List.mem_of_getElem? Hp.out)).1; omega)).symm, S.below⟩
            by_cases g2 : (c.programs.length : Int) ≤ p.program
            · go_wp2_with first | ((with_reducible apply wps_load_el S 3 (hj := Hp.out) (q := 0) (u := .int .i64 p.program)); (case hx | hi => rfl); (case hn => omega); (case hu => rfl); (case hT => decide +kernel)) | ((with_reducible refine tot_done ?ht ?_); (case ht => kernel_rfl)) | ((with_reducible apply wps_text S); (case hm => kernel_rfl); (case hB => decide +kernel); clear S; intro wz S) | ((with_reducible apply wps_load S 0); (case hx | hi | hu => rfl); (case hT => decide +kernel))
              go_ret
              exact ⟨ret_int (cfg_ends HZ.out gs2 H3.out (by rintro ⟨h, _⟩; have := (h p (List.mem_of_getElem? Hp.out)).2; omega)).symm, S.below⟩
            go_wp2_with first | ((with_reducible apply wps_load_el S 3 (hj := Hp.out) (q := 0) (u := .int .i64 p.program)); (case hx | hi => rfl); (case hn => omega); (case hu => rfl); (case hT => decide +kernel)) | ((with_reducible refine tot_done ?ht ?_); (case ht => kernel_rfl)) | ((with_reducible apply wps_text S); (case hm => kernel_rfl); (case hB => decide +kernel); clear S; intro wz S) | ((with_reducible apply wps_load S 0); (case hx | hi | hu => rfl); (case hT => decide +kernel))
            go_roundw
            case rel => exact ⟨j + 1, by omega, by go_num, snoc_all Hz.out Hp.out ⟨by omega, by omega⟩, S⟩
            case measure => first | (simp [intOf]; done) | (simp [intOf]; omega)
          · obtain rfl : j = c.lps.length := by omega
            have H4 := Lib.hid (all_of Hz.out)
            clear Hz
            go_wp2_with first | ((with_reducible apply wps_load S 0); (case hx | hi | hu => rfl); (case hT => decide +kernel))
            go_loopw [7] (fun i wr => RcRel bx (.slice aP c.programs.length cP) (.slice aL c.lps.length cL) (.slice aS c.starts.length cS) hs c c.starts.length (fun j => ∀ (q : Nat) (y : Start), q < j → c.starts[q]? = some y → 0 ≤ y.dst ∧ y.dst < c.lps.length) w i wr) (fun i _ => c.starts.length - (intOf i).toNat)
            case atStart => exact ⟨0, Nat.zero_le _, rfl, fun q y h => by omega, S⟩
            case round =>
              clear S
              obtain ⟨j, hj, rfl, Hz, S⟩ := hrel
              by_cases hlt : j < c.starts.length
              · obtain ⟨p, hp⟩ : ∃ p, c.starts[j]? = some p := ⟨_, List.getElem?_eq_getElem hlt⟩
                obtain ⟨R, o, rfl⟩ : ∃ R o, aS = some ⟨R, o, none⟩ := (S.sl 4 rfl).elim fun F h => h.head (by omega)
                have hlt2 : (j : Int) < c.starts.length := by omega
                have Hp := Lib.hid hp
                clear hp
                by_cases g1 : p.dst < 0
                · go_wp2_with first | ((with_reducible refine wpList_skip ?hw ?_); (case hw => with_unfolding_all rfl); simp only [Act.put, List.setIfInBounds_toArray, List.set_cons_succ, List.set_cons_zero]) | ((with_reducible apply wps_load_el S 4 (hj := Hp.out) (q := 0) (u := .int .i64 p.dst)); (case hx | hi => rfl); (case hn => omega); (case hu => rfl); (case hT => decide +kernel)) | ((with_reducible refine tot_done ?ht ?_); (case ht => kernel_rfl)) | ((with_reducible apply wps_text S); (case hm => kernel_rfl); (case hB => decide +kernel); clear S; intro wz S) | ((with_reducible apply wps_load S 0); (case hx | hi | hu => rfl); (case hT => decide +kernel))
                  go_ret
                  exact ⟨ret_int (cfg_ends HZ.out gs2 H3.out (by rintro ⟨_, h⟩; have := (h p (List.mem_of_getElem? Hp.out)).1; omega)).symm, S.below⟩
                by_cases g2 : (c.lps.length : Int) ≤ p.dst
                · go_wp2_with first | ((with_reducible apply wps_load_el S 4 (hj := Hp.out) (q := 0) (u := .int .i64 p.dst)); (case hx | hi => rfl); (case hn => omega); (case hu => rfl); (case hT => decide +kernel)) | ((with_reducible refine tot_done ?ht ?_); (case ht => kernel_rfl)) | ((with_reducible apply wps_text S); (case hm => kernel_rfl); (case hB => decide +kernel); clear S; intro wz S) | ((with_reducible apply wps_load S 0); (case hx | hi | hu => rfl); (case hT => decide +kernel))
                  go_ret
                  exact ⟨ret_int (cfg_ends HZ.out gs2 H3.out (by rintro ⟨_, h⟩; have := (h p (List.mem_of_getElem? Hp.out)).2; omega)).symm, S.below⟩
                go_wp2_with first | ((with_reducible apply wps_load_el S 4 (hj := Hp.out) (q := 0) (u := .int .i64 p.dst)); (case hx | hi => rfl); (case hn => omega); (case hu => rfl); (case hT => decide +kernel)) | ((with_reducible refine tot_done ?ht ?_); (case ht => kernel_rfl)) | ((with_reducible apply wps_text S); (case hm => kernel_rfl); (case hB => decide +kernel); clear S; intro wz S) | ((with_reducible apply wps_load S 0); (case hx | hi | hu => rfl); (case hT => decide +kernel))
                go_roundw
                case rel => exact ⟨j + 1, by omega, by go_num, snoc_all Hz.out Hp.out ⟨by omega, by omega⟩, S⟩
                case measure => first | (simp [intOf]; done) | (simp [intOf]; omega)
              · obtain rfl : j = c.starts.length := by omega
                have H5 := Lib.hid (all_of Hz.out)
                clear Hz
                go_wp2_with first | ((with_reducible apply wps_load S 0); (case hx | hi | hu => rfl); (case hT => decide +kernel))
                go_loopw [8] (fun i wr => RcRel bx (.slice aP c.programs.length cP) (.slice aL c.lps.length cL) (.slice aS c.starts.length cS) hs c c.starts.length (fun j => ∀ (q : Nat) (y : Start), q < j → c.starts[q]? = some y → 0 ≤ y.at_ ∧ y.at_ ≤ c.fin) w i wr) (fun i _ => c.starts.length - (intOf i).toNat)
                case atStart => exact ⟨0, Nat.zero_le _, rfl, fun q y h => by omega, S⟩
                case round =>
                  clear S
                  obtain ⟨j, hj, rfl, Hz, S⟩ := hrel
                  by_cases hlt : j < c.starts.length
                  · obtain ⟨p, hp⟩ : ∃ p, c.starts[j]? = some p := ⟨_, List.getElem?_eq_getElem hlt⟩
                    obtain ⟨R, o, rfl⟩ : ∃ R o, aS = some ⟨R, o, none⟩ := (S.sl 4 rfl).elim fun F h => h.head (by omega)
                    have hlt2 : (j : Int) < c.starts.length := by omega
                    have Hp := Lib.hid hp
                    clear hp
                    by_cases g1 : p.at_ < 0
                    · go_wp2_with first | ((with_reducible refine wpList_skip ?hw ?_); (case hw => with_unfolding_all rfl); simp only [Act.put, List.setIfInBounds_toArray, List.set_cons_succ, List.set_cons_zero]) | ((with_reducible apply wps_load_el S 4 (hj := Hp.out) (q := 1) (u := .int .i64 p.at_)); (case hx | hi => rfl); (case hn => omega); (case hu => rfl); (case hT => decide +kernel)) | ((with_reducible refine tot_done ?ht ?_); (case ht => kernel_rfl)) | ((with_reducible apply wps_text S); (case hm => kernel_rfl); (case hB => decide +kernel); clear S; intro wz S) | ((with_reducible apply wps_load S 0); (case hx | hi | hu => rfl); (case hT => decide +kernel))
                      go_ret
                      exact ⟨ret_int (cfg_times HZ.out gs2 H3.out ⟨H4.out, H5.out⟩ (by intro h; have := (h p (List.mem_of_getElem? Hp.out)).1; omega)).symm, S.below⟩
                    by_cases g2 : c.fin < p.at_
                    · go_wp2_with first | ((with_reducible apply wps_load_el S 4 (hj := Hp.out) (q := 1) (u := .int .i64 p.at_)); (case hx | hi => rfl); (case hn => omega); (case hu => rfl); (case hT => decide +kernel)) | ((with_reducible refine tot_done ?ht ?_); (case ht => kernel_rfl)) | ((with_reducible apply wps_text S); (case hm => kernel_rfl); (case hB => decide +kernel); clear S; intro wz S) | ((with_reducible apply wps_load S 0); (case hx | hi | hu => rfl); (case hT => decide +kernel))
                      go_ret
                      exact ⟨ret_int (cfg_times HZ.out gs2 H3.out ⟨H4.out, H5.out⟩ (by intro h; have := (h p (List.mem_of_getElem? Hp.out)).2; omega)).symm, S.below⟩
                    go_wp2_with first | ((with_reducible apply wps_load_el S 4 (hj := Hp.out) (q := 1) (u := .int .i64 p.at_)); (case hx | hi => rfl); (case hn => omega); (case hu => rfl); (case hT => decide +kernel)) | ((with_reducible refine tot_done ?ht ?_); (case ht => kernel_rfl)) | ((with_reducible apply wps_text S); (case hm => kernel_rfl); (case hB => decide +kernel); clear S; intro wz S) | ((with_reducible apply wps_load S 0); (case hx | hi | hu => rfl); (case hT => decide +kernel))
                    go_roundw
                    case rel => exact ⟨j + 1, by omega, by go_num, snoc_all Hz.out Hp.out ⟨by omega, by omega⟩, S⟩
                    case measure => first | (simp [intOf]; done) | (simp [intOf]; omega)
                  · obtain rfl : j = c.starts.length := by omega
                    go_wp2_with first | ((with_reducible apply wps_load S 0); (case hx | hi | hu => rfl); (case hT => decide +kernel))
                    go_ret
                    exact ⟨ret_int (cfg_fine HZ.out gs2 H3.out ⟨H4.out, H5.out⟩ (all_of Hz.out)).symm, S.below⟩
end Go.Proofs.YtfiiaechippboaaDoor

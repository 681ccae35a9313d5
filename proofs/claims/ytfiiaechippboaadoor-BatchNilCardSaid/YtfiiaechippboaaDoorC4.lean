import Derived.Test.YtfiiaechippboaaDoorC3
/- The walk of model.New. -/
namespace Go.Proofs.YtfiiaechippboaaDoor
open Go Go.RowKit Reg Mem

def nilS : Value := .slice none 0 0
def NewRel (bx R0 : Nat) (cs : Array Value) (aP : Option Addr) (cP : Nat) (vL vS : Value) (hs : List Value) (c : Cfg) (w : World) (i : Value) (wr : World) : Prop :=
  ∃ (j : Nat) (gs : List Value), j ≤ c.programs.length ∧ i = .int .i64 j ∧ gs.length = j ∧
    St (fun _ => False) w wr [Blk false bx cs 26, Own 71 vcell 1 (.slice (some ⟨R0, 0, none⟩) c.programs.length c.programs.length) (gs ++ List.replicate (c.programs.length - j) nilS), Sls false Instr.cells 5 gs (c.programs.take j), Sls true Instr.cells 5 hs c.programs, Sl true vcell 1 (.slice aP c.programs.length cP) hs, Sl true Place.cells 5 vL c.lps, Sl true Start.cells 4 vS c.starts]
/-- What New answers. -/
def NewPost (c : Cfg) (w : World) (e : Ending) (w' : World) : Prop :=
  (cfgE c ≠ 0 ∧ e = .returned (.tuple #[.pointer none, .int .i64 (cfgE c)]) ∧ Below w.heap.size w w') ∨
  (cfgE c = 0 ∧ ∃ R vs hs, e = .returned (.tuple #[.pointer (some ⟨R, 0, none⟩), .int .i64 0]) ∧ St (fun _ => False) w w' [ModA false 93 R vs hs c])
set_option maxRecDepth 100000 in
set_option maxHeartbeats 8000000 in
theorem new_calls (vs hs : List Value) (c : Cfg) (w : World) (F F2 : Nat → Prop) (h : (CfgA true vs hs c).at_ w F) (ht : Tab.at_ w F2) (hm : Mid c) (hm2 : ∀ p ∈ c.programs, p.length ≤ 65536) :
    Calls Tryd.prog 27 #[.agg vs.toArray] w (NewPost c w) := by
  have S : St (fun _ => False) w w [CfgA true vs hs c, Tab] := ((St.init _ w).share rfl rfl ht).share rfl rfl h
  obtain ⟨aP, cP, aL, cL, aS, cS, rfl, hlen, S⟩ := S.cfg 0 rfl
  clear h ht
  have hp1 := hm.p
  have hp2 := hm.l
  have hp3 := hm.s
  have HC : Hid (∀ w F F2, (CfgA true [.slice aP c.programs.length cP, .slice aL c.lps.length cL, .slice aS c.starts.length cS, .int .i64 c.fin, .int .i64 c.fuel, .int .i64 c.fan] hs c).at_ w F → Tab.at_ w F2 →
      Calls Tryd.prog 43 #[.agg #[.slice aP c.programs.length cP, .slice aL c.lps.length cL, .slice aS c.starts.length cS, .int .i64 c.fin, .int .i64 c.fuel, .int .i64 c.fan]] w fun r w' => r = .returned (.int .i64 (cfgE c)) ∧ Below w.heap.size w w') :=
    fun w F F2 h ht => mcheck_calls _ hs c w F F2 h ht hm
  obtain ⟨e, he⟩ : ∃ e, cfgE c = e := ⟨_, rfl⟩
  unfold NewPost
  rw [he] at HC ⊢
  have He := Lib.hid he
  clear he
  by_cases h0 : e = 0
  case neg =>
    have h1 : (e != 0) = true := by simpa using h0
    have H0 := Lib.hid h0
    clear h0
    go_enter Tryd.func27, Tryd.ntmps27
    go_wp2_with first
      | ((with_reducible apply wps_boxa S); (case hx => rfl); clear S; intro bx wz S)
      | (go_at_call 43; refine Calls.mono (HC.out _ _ _ (S.get (i := 5) rfl).choose_spec (S.get (i := 6) rfl).choose_spec) ?_; rintro e wz ⟨rfl, hE⟩; replace S := S.ext (Keep.of_below hE); clear hE)
      | ((with_reducible refine tot_done ?ht ?_); (case ht => kernel_rfl))
      | ((with_reducible apply wps_boxa S); (case hx => rfl); clear S; intro bz wz S)
      | ((with_reducible apply wps_box1 (v := .int _ _) S); (case hx => rfl); (case h1 => rfl); clear S; intro bz wz S)
      | ((with_reducible apply wps_box1 (v := .bool _) S); (case hx => rfl); (case h1 => rfl); clear S; intro bz wz S)
      | ((with_reducible apply wps_box1 (v := .slice _ _ _) S); (case hx => rfl); (case h1 => rfl); clear S; intro bz wz S)
      | ((with_reducible apply wps_box1 (v := .pointer _) S); (case hx => rfl); (case h1 => rfl); clear S; intro bz wz S)
      | ((with_reducible apply wps_box1 (v := .map _) S); (case hx => rfl); (case h1 => rfl); clear S; intro bz wz S)
      | ((with_reducible apply wps_box1 (v := .string _) S); (case hx => rfl); (case h1 => rfl); clear S; intro bz wz S)
      | ((with_reducible apply wps_box1 (v := .func _ _ _) S); (case hx => rfl); (case h1 => rfl); clear S; intro bz wz S)
      | ((with_reducible apply wps_load S 0); (case hx => rfl); (case hi => rfl); (case hT => decide +kernel); (case hu => rfl))
      | ((with_reducible apply wps_loada (T := 26) (k := 6) S 0); (case hx => rfl); (case hi => rfl); (case hT => decide +kernel); (case hk => exact Nat.le_of_ble_eq_true rfl))
    go_ret2
    exact .inl ⟨H0.out, by simp, S.below⟩
  case pos =>
    subst h0
    go_enter Tryd.func27, Tryd.ntmps27
    go_wp2_with first
      | ((with_reducible apply wps_boxa S); (case hx => rfl); clear S; intro bx wz S)
      | (go_at_call 43; refine Calls.mono (HC.out _ _ _ (S.get (i := 5) rfl).choose_spec (S.get (i := 6) rfl).choose_spec) ?_; rintro e wz ⟨rfl, hE⟩; replace S := S.ext (Keep.of_below hE); clear hE)
      | ((with_reducible apply wps_make vcells Tryd.underlying22 _ zero_Hdr S (n := c.programs.length)); (case hx => rfl); (case hy => rfl); (case hn => omega); clear S; intro bz wz S)
      | ((with_reducible refine tot_done ?ht ?_); (case ht => kernel_rfl))
      | ((with_reducible apply wps_boxa S); (case hx => rfl); clear S; intro bz wz S)
      | ((with_reducible apply wps_box1 (v := .int _ _) S); (case hx => rfl); (case h1 => rfl); clear S; intro bz wz S)
      | ((with_reducible apply wps_box1 (v := .bool _) S); (case hx => rfl); (case h1 => rfl); clear S; intro bz wz S)
      | ((with_reducible apply wps_box1 (v := .slice _ _ _) S); (case hx => rfl); (case h1 => rfl); clear S; intro bz wz S)
      | ((with_reducible apply wps_box1 (v := .pointer _) S); (case hx => rfl); (case h1 => rfl); clear S; intro bz wz S)
      | ((with_reducible apply wps_box1 (v := .map _) S); (case hx => rfl); (case h1 => rfl); clear S; intro bz wz S)
      | ((with_reducible apply wps_box1 (v := .string _) S); (case hx => rfl); (case h1 => rfl); clear S; intro bz wz S)
      | ((with_reducible apply wps_box1 (v := .func _ _ _) S); (case hx => rfl); (case h1 => rfl); clear S; intro bz wz S)
      | ((with_reducible apply wps_load S 0); (case hx => rfl); (case hi => rfl); (case hT => decide +kernel); (case hu => rfl))
      | ((with_reducible apply wps_loada (T := 26) (k := 6) S 0); (case hx => rfl); (case hi => rfl); (case hT => decide +kernel); (case hk => exact Nat.le_of_ble_eq_true rfl))
      | ((with_reducible apply wps_load S 1); (case hx => rfl); (case hi => rfl); (case hT => decide +kernel); (case hu => rfl))
      | ((with_reducible apply wps_loada (T := 26) (k := 6) S 1); (case hx => rfl); (case hi => rfl); (case hT => decide +kernel); (case hk => exact Nat.le_of_ble_eq_true rfl))
    clear HC
    replace S := (S.slsNil Instr.cells 5).pick [2, 1, 0, 3, 4, 5, 6] rfl
    simp only [pick, nth] at S
    go_loopw [20] (fun i wr => NewRel bx bz #[.slice aP c.programs.length cP, .slice aL c.lps.length cL, .slice aS c.starts.length cS, .int .i64 c.fin, .int .i64 c.fuel, .int .i64 c.fan] aP cP (.slice aL c.lps.length cL) (.slice aS c.starts.length cS) hs c w i wr) (fun i _ => c.programs.length - (intOf i).toNat)
    case atStart => exact ⟨0, [], Nat.zero_le _, rfl, rfl, S⟩
    case round =>
      clear S
      obtain ⟨j, gs, hj, rfl, hgs, S⟩ := hrel
      by_cases hlt : j < c.programs.length
      · obtain ⟨p, hp⟩ : ∃ p, c.programs[j]? = some p := ⟨_, List.getElem?_eq_getElem hlt⟩
        obtain ⟨v, hv⟩ : ∃ v, hs[j]? = some v := ⟨_, List.getElem?_eq_getElem (by omega)⟩
        obtain ⟨R, o, rfl⟩ : ∃ R o, aP = some ⟨R, o, none⟩ := (S.sl 4 rfl).elim fun F h => h.head (by omega)
        have hlt2 : (j : Int) < c.programs.length := by omega
        have hpn := hm2 p (List.mem_of_getElem? hp)
        obtain ⟨av, cv, rfl, _⟩ := (S.sls 3 rfl).elim fun F h => (h.2 j v p hv hp).form
        have hr : List.replicate (c.programs.length - j) nilS = nilS :: List.replicate (c.programs.length - (j + 1)) nilS := by
          rw [← List.replicate_succ]; congr 1; omega
        rw [hr] at S
        have hj0 : (gs ++ nilS :: List.replicate (c.programs.length - (j + 1)) nilS)[j]? = some nilS := by rw [← hgs]; simp
        clear hr
        have Hp := Lib.hid hp
        have Hv := Lib.hid hv
        have Hj0 := Lib.hid hj0
        clear hp hv hj0
        go_wp2_with first
          | ((with_reducible apply wps_load_el S 4 (hj := Hv.out) (q := 0) (u := (.slice av p.length cv))); (case hx => rfl); (case hi => rfl); (case hn => omega); (case hT => decide +kernel); (case hu => rfl))
          | ((with_reducible refine tot_done ?ht ?_); (case ht => kernel_rfl))
          | ((with_reducible apply wps_boxa S); (case hx => rfl); clear S; intro bz wz S)
          | ((with_reducible apply wps_box1 (v := .int _ _) S); (case hx => rfl); (case h1 => rfl); clear S; intro bz wz S)
          | ((with_reducible apply wps_box1 (v := .bool _) S); (case hx => rfl); (case h1 => rfl); clear S; intro bz wz S)
          | ((with_reducible apply wps_box1 (v := .slice _ _ _) S); (case hx => rfl); (case h1 => rfl); clear S; intro bz wz S)
          | ((with_reducible apply wps_box1 (v := .pointer _) S); (case hx => rfl); (case h1 => rfl); clear S; intro bz wz S)
          | ((with_reducible apply wps_box1 (v := .map _) S); (case hx => rfl); (case h1 => rfl); clear S; intro bz wz S)
          | ((with_reducible apply wps_box1 (v := .string _) S); (case hx => rfl); (case h1 => rfl); clear S; intro bz wz S)
          | ((with_reducible apply wps_box1 (v := .func _ _ _) S); (case hx => rfl); (case h1 => rfl); clear S; intro bz wz S)
          | ((with_reducible apply wps_load S 0); (case hx => rfl); (case hi => rfl); (case hT => decide +kernel); (case hu => rfl))
          | ((with_reducible apply wps_loada (T := 26) (k := 6) S 0); (case hx => rfl); (case hi => rfl); (case hT => decide +kernel); (case hk => exact Nat.le_of_ble_eq_true rfl))
        refine Calls.mono (clone_In _ _ ((S.slsEl 3 rfl Hv.out Hp.out).get (i := 0) rfl).choose_spec (by omega)) ?_
        rintro e wz ⟨ad2, c2, rfl, _, T⟩
        replace S := S.join T rfl
        simp only [List.cons_append, List.nil_append] at S
        clear T
        go_wp2_with first
          | ((with_reducible apply wps_store_own vcells S 2 (hj := Hj0.out) (e' := (.slice ad2 p.length c2)) (q := 0)); (case hx => rfl); (case hn => omega); (case hi => rfl); (case hy => rfl); (case hT => decide +kernel); (case h1 => rfl); (case he => rfl); (case hq => decide); clear S; intro wz S; simp only [List.set_cons_succ, List.set_cons_zero] at S)
          | ((with_reducible refine tot_done ?ht ?_); (case ht => kernel_rfl))
          | ((with_reducible apply wps_boxa S); (case hx => rfl); clear S; intro bz wz S)
          | ((with_reducible apply wps_box1 (v := .int _ _) S); (case hx => rfl); (case h1 => rfl); clear S; intro bz wz S)
          | ((with_reducible apply wps_box1 (v := .bool _) S); (case hx => rfl); (case h1 => rfl); clear S; intro bz wz S)
          | ((with_reducible apply wps_box1 (v := .slice _ _ _) S); (case hx => rfl); (case h1 => rfl); clear S; intro bz wz S)
          | ((with_reducible apply wps_box1 (v := .pointer _) S); (case hx => rfl); (case h1 => rfl); clear S; intro bz wz S)
          | ((with_reducible apply wps_box1 (v := .map _) S); (case hx => rfl); (case h1 => rfl); clear S; intro bz wz S)
          | ((with_reducible apply wps_box1 (v := .string _) S); (case hx => rfl); (case h1 => rfl); clear S; intro bz wz S)
          | ((with_reducible apply wps_box1 (v := .func _ _ _) S); (case hx => rfl); (case h1 => rfl); clear S; intro bz wz S)
          | ((with_reducible apply wps_load S 0); (case hx => rfl); (case hi => rfl); (case hT => decide +kernel); (case hu => rfl))
          | ((with_reducible apply wps_loada (T := 26) (k := 6) S 0); (case hx => rfl); (case hi => rfl); (case hT => decide +kernel); (case hk => exact Nat.le_of_ble_eq_true rfl))
          | ((with_reducible apply wps_load S 1); (case hx => rfl); (case hi => rfl); (case hT => decide +kernel); (case hu => rfl))
          | ((with_reducible apply wps_loada (T := 26) (k := 6) S 1); (case hx => rfl); (case hi => rfl); (case hT => decide +kernel); (case hk => exact Nat.le_of_ble_eq_true rfl))
        rw [hset hgs.symm] at S
        replace S := ((S.freeze false 0 incells rfl).pick [0, 3, 1, 2, 4, 5, 6, 7] rfl)
        simp only [List.set_cons_zero, pick, nth] at S
        replace S := S.slsSnoc.pick [1, 2, 0, 3, 4, 5, 6] rfl
        simp only [pick, nth] at S
        go_roundw
        case rel =>
          refine ⟨j + 1, gs ++ [.slice ad2 p.length c2], by omega, by go_num, by simp [hgs], ?_⟩
          have ht : c.programs.take (j + 1) = c.programs.take j ++ [p] := by rw [List.take_add_one, Hp.out]; rfl
          rw [ht]
          exact S
        case measure => first | (simp [intOf]; done) | (simp [intOf]; omega)
      · obtain rfl : j = c.programs.length := by omega
        rw [Nat.sub_self, List.replicate_zero, List.append_nil, List.take_length] at S
        replace S := S.freeze false 1 vcells rfl
        simp only [List.set_cons_succ, List.set_cons_zero] at S
        obtain ⟨ps, ls, ss, fin, fuel, fan⟩ := c
        have hz := He.out
        simp only at S hp1 hp2 hp3 hlen
        go_wp2_with first
          | ((with_reducible apply wps_store S 0); (case hx => rfl); (case hy => rfl); (case hi => rfl); (case hT => decide +kernel); (case h1 => rfl); (case hn => exact Nat.le_of_ble_eq_true rfl); clear S; intro wz S; simp only [List.set_cons_zero, List.setIfInBounds_toArray] at S)
          | ((with_reducible refine tot_done ?ht ?_); (case ht => kernel_rfl))
          | ((with_reducible apply wps_boxa S); (case hx => rfl); clear S; intro bz wz S)
          | ((with_reducible apply wps_box1 (v := .int _ _) S); (case hx => rfl); (case h1 => rfl); clear S; intro bz wz S)
          | ((with_reducible apply wps_box1 (v := .bool _) S); (case hx => rfl); (case h1 => rfl); clear S; intro bz wz S)
          | ((with_reducible apply wps_box1 (v := .slice _ _ _) S); (case hx => rfl); (case h1 => rfl); clear S; intro bz wz S)
          | ((with_reducible apply wps_box1 (v := .pointer _) S); (case hx => rfl); (case h1 => rfl); clear S; intro bz wz S)
          | ((with_reducible apply wps_box1 (v := .map _) S); (case hx => rfl); (case h1 => rfl); clear S; intro bz wz S)
          | ((with_reducible apply wps_box1 (v := .string _) S); (case hx => rfl); (case h1 => rfl); clear S; intro bz wz S)
          | ((with_reducible apply wps_box1 (v := .func _ _ _) S); (case hx => rfl); (case h1 => rfl); clear S; intro bz wz S)
          | ((with_reducible apply wps_load S 0); (case hx => rfl); (case hi => rfl); (case hT => decide +kernel); (case hu => rfl))
          | ((with_reducible apply wps_loada (T := 26) (k := 6) S 0); (case hx => rfl); (case hi => rfl); (case hT => decide +kernel); (case hk => exact Nat.le_of_ble_eq_true rfl))
        refine Calls.mono (clone_Pl _ _ (S.get (i := 5) rfl).choose_spec (by omega)) ?_
        rintro e wz ⟨ad2, c2, rfl, _, T⟩
        replace S := ((S.join T rfl).freeze false 0 plcells rfl).pick [1, 0, 2, 3, 7] rfl
        simp only [List.cons_append, List.nil_append, List.set_cons_zero, pick, nth] at S
        clear T
        go_wp2_with first
          | ((with_reducible apply wps_store S 0); (case hx => rfl); (case hy => rfl); (case hi => rfl); (case hT => decide +kernel); (case h1 => rfl); (case hn => exact Nat.le_of_ble_eq_true rfl); clear S; intro wz S; simp only [List.set_cons_succ, List.set_cons_zero, List.setIfInBounds_toArray] at S)
          | ((with_reducible refine tot_done ?ht ?_); (case ht => kernel_rfl))
          | ((with_reducible apply wps_boxa S); (case hx => rfl); clear S; intro bz wz S)
          | ((with_reducible apply wps_box1 (v := .int _ _) S); (case hx => rfl); (case h1 => rfl); clear S; intro bz wz S)
          | ((with_reducible apply wps_box1 (v := .bool _) S); (case hx => rfl); (case h1 => rfl); clear S; intro bz wz S)
          | ((with_reducible apply wps_box1 (v := .slice _ _ _) S); (case hx => rfl); (case h1 => rfl); clear S; intro bz wz S)
          | ((with_reducible apply wps_box1 (v := .pointer _) S); (case hx => rfl); (case h1 => rfl); clear S; intro bz wz S)
          | ((with_reducible apply wps_box1 (v := .map _) S); (case hx => rfl); (case h1 => rfl); clear S; intro bz wz S)
          | ((with_reducible apply wps_box1 (v := .string _) S); (case hx => rfl); (case h1 => rfl); clear S; intro bz wz S)
          | ((with_reducible apply wps_box1 (v := .func _ _ _) S); (case hx => rfl); (case h1 => rfl); clear S; intro bz wz S)
          | ((with_reducible apply wps_load S 0); (case hx => rfl); (case hi => rfl); (case hT => decide +kernel); (case hu => rfl))
          | ((with_reducible apply wps_loada (T := 26) (k := 6) S 0); (case hx => rfl); (case hi => rfl); (case hT => decide +kernel); (case hk => exact Nat.le_of_ble_eq_true rfl))
        refine Calls.mono (clone_Sta _ _ (S.get (i := 4) rfl).choose_spec (by omega)) ?_
        rintro e wz ⟨ad3, c3, rfl, _, T⟩
        replace S := ((S.join T rfl).freeze false 0 stcells rfl).pick [1, 3, 2, 0, 4] rfl
        simp only [List.cons_append, List.nil_append, List.set_cons_zero, pick, nth] at S
        clear T
        go_wp2_with first
          | ((with_reducible apply wps_store S 0); (case hx => rfl); (case hy => rfl); (case hi => rfl); (case hT => decide +kernel); (case h1 => rfl); (case hn => exact Nat.le_of_ble_eq_true rfl); clear S; intro wz S; simp only [List.set_cons_succ, List.set_cons_zero, List.setIfInBounds_toArray] at S)
          | ((with_reducible apply wps_boxa S); (case hx => rfl); clear S; intro b2 wz S)
          | ((with_reducible refine tot_done ?ht ?_); (case ht => kernel_rfl))
          | ((with_reducible apply wps_boxa S); (case hx => rfl); clear S; intro bz wz S)
          | ((with_reducible apply wps_box1 (v := .int _ _) S); (case hx => rfl); (case h1 => rfl); clear S; intro bz wz S)
          | ((with_reducible apply wps_box1 (v := .bool _) S); (case hx => rfl); (case h1 => rfl); clear S; intro bz wz S)
          | ((with_reducible apply wps_box1 (v := .slice _ _ _) S); (case hx => rfl); (case h1 => rfl); clear S; intro bz wz S)
          | ((with_reducible apply wps_box1 (v := .pointer _) S); (case hx => rfl); (case h1 => rfl); clear S; intro bz wz S)
          | ((with_reducible apply wps_box1 (v := .map _) S); (case hx => rfl); (case h1 => rfl); clear S; intro bz wz S)
          | ((with_reducible apply wps_box1 (v := .string _) S); (case hx => rfl); (case h1 => rfl); clear S; intro bz wz S)
          | ((with_reducible apply wps_box1 (v := .func _ _ _) S); (case hx => rfl); (case h1 => rfl); clear S; intro bz wz S)
          | ((with_reducible apply wps_load S 0); (case hx => rfl); (case hi => rfl); (case hT => decide +kernel); (case hu => rfl))
          | ((with_reducible apply wps_loada (T := 26) (k := 6) S 0); (case hx => rfl); (case hi => rfl); (case hT => decide +kernel); (case hk => exact Nat.le_of_ble_eq_true rfl))
        go_ret2
        replace S := S.pick [0, 2, 3, 4, 5] rfl
        simp only [pick, nth] at S
        refine .inr ⟨trivial, _, _, _, rfl, S.modNew⟩
end Go.Proofs.YtfiiaechippboaaDoor

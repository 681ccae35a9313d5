import Derived.Test.YtfiiaechippboaaDoorP10
import Derived.Test.YtfiiaechippboaaDoorP06
import Derived.Test.YtfiiaechippboaaDoorP13
import Derived.Test.YtfiiaechippboaaDoorP04
/- The walk of model.New. -/
namespace Go.Proofs.YtfiiaechippboaaDoor
open Go Go.RowKit Reg Mem

def nilS : Value := .slice none 0 0
def NewRel (bx R0 : Nat) (cs : Array Value) (aP : Option Addr) (cP : Nat) (vL vS : Value) (hs : List Value) (c : Cfg) (w : World) (i : Value) (wr : World) : Prop :=
  ∃ (j : Nat) (gs : List Value), j ≤ c.programs.length ∧ i = .int .i64 j ∧ gs.length = j ∧
    St (fun _ => False) w wr [Blk false bx cs 26, Own 71 vcell 1 (.slice (some ⟨R0, 0, none⟩) c.programs.length c.programs.length) (gs ++ List.replicate (c.programs.length - j) nilS), Sls false Instr.cells 5 gs (c.programs.take j), Sls true Instr.cells 5 hs c.programs, Sl true vcell 1 (.slice aP c.programs.length cP) hs, Sl true Place.cells 5 vL c.lps, Sl true Start.cells 4 vS c.starts]
/-- What New answers. -/
def NewPost (c : Cfg) (w : World) (e : Ending) (w' : World) : Prop :=
  (cfgE c ≠ 0 ∧ e = .returned (.tuple #[.pointer none, .int .i64 (cfgE c)]) ∧ Below w.heap.size w w') ∨
  (cfgE c = 0 ∧ ∃ R vs hs, e = .returned (.tuple #[.pointer (some ⟨R, 0, none⟩), .int .i64 0]) ∧ St (fun _ => False) w w' [ModA false 93 R vs hs c])
set_option maxRecDepth 100000 in
set_option maxHeartbeats 8000000 in
theorem new_calls (vs hs : List Value) (c : Cfg) (w : World) (F F2 : Nat → Prop) (h : (CfgA true vs hs c).at_ w F) (ht : Tab.at_ w F2) (hm : Mid c) (hm2 : ∀ p ∈ c.programs, p.length ≤ 65536) :
    Calls Tryd.prog 27 #[.agg vs.toArray] w (NewPost c w) := by
  have S : St (fun _ => False) w w [CfgA true vs hs c, Tab] := ((St.init _ w).share rfl rfl ht).share rfl rfl h
  obtain ⟨aP, cP, aL, cL, aS, cS, rfl, hlen, S⟩ := S.cfg 0 rfl
  clear h ht
  have hp1 := hm.p
  have hp2 := hm.l
  have hp3 := hm.s
  have HC : Hid (∀ w F F2, (CfgA true [.slice aP c.programs.length cP, .slice aL c.lps.length cL, .slice aS c.starts.length cS, .int .i64 c.fin, .int .i64 c.fuel, .int .i64 c.fan] hs c).at_ w F → Tab.at_ w F2 →
      Calls Tryd.prog 43 #[.agg #[.slice aP c.programs.length cP, .slice aL c.lps.length cL, .slice aS c.starts.length cS, .int .i64 c.fin, .int .i64 c.fuel, .int .i64 c.fan]] w fun r w' => r = .returned (.int .i64 (cfgE c)) ∧ Below w.heap.size w w') :=
    fun w F F2 h ht => mcheck_calls _ hs c w F F2 h ht hm
  obtain ⟨e, he⟩ : ∃ e, cfgE c = e := ⟨_, rfl⟩
  unfold NewPost
  rw [he] at HC ⊢
  have He := Lib.hid he
  clear he
  by_cases h0 : e = 0
  case neg =>
    have h1 : (e != 0) = true := by simpa using h0
    have H0 := Lib.hid h0
    clear h0
    go_enter Tryd.func27, Tryd.ntmps27
    go_wp2_with first
      | ((with_reducible apply wps_boxa S); (case hx => rfl); clear S; intro bx wz S)
      | (go_at_call 43; refine Calls.mono (HC.out _ _ _ (S.get (i := 5) rfl).choose_spec (S.get (i := 6) rfl).choose_spec) ?_; rintro e wz ⟨rfl, hE⟩; replace S := S.ext (Keep.of_below hE); clear hE)
      | ((with_reducible refine tot_done ?ht ?_); (case ht => kernel_rfl))
      | ((with_reducible apply wps_boxa S); (case hx => rfl); clear S; intro bz wz S)
      | ((with_reducible apply wps_box1 (v := .int _ _) S); (case hx => rfl); (case h1 => rfl); clear S; intro bz wz S)
      | ((with_reducible apply wps_box1 (v := .bool _) S); (case hx => rfl); (case h1 => rfl); clear S; intro bz wz S)
      | ((with_reducible apply wps_box1 (v := .slice _ _ _) S); (case hx => rfl); (case h1 => rfl); clear S; intro bz wz S)
      | ((with_reducible apply wps_box1 (v := .pointer _) S); (case hx => rfl); (case h1 => rfl); clear S; intro bz wz S)
      | ((with_reducible apply wps_box1 (v := .map _) S); (case hx => rfl); (case h1 => rfl); clear S; intro bz wz S)
      | ((with_reducible apply wps_box1 (v := .string _) S); (case hx => rfl); (case h1 => rfl); clear S; intro bz wz S)
      | ((with_reducible apply wps_box1 (v := .func _ _ _) S); (case hx => rfl); (case h1 => rfl); clear S; intro bz wz S)
      | ((with_reducible apply wps_load S 0); (case hx => rfl); (case hi => rfl); (case hT => decide +kernel); (case hu => rfl))
      | ((with_reducible apply wps_loada (T := 26) (k := 6) S 0); (case hx => rfl); (case hi => rfl); (case hT => decide +kernel); (case hk => exact Nat.le_of_ble_eq_true rfl))
    go_ret2
    exact .inl ⟨H0.out, by simp, S.below⟩
  case pos =>
    subst h0
    go_enter Tryd.func27, Tryd.ntmps27
    go_wp2_with first
      | ((with_reducible apply wps_boxa S); (case hx => rfl); clear S; intro bx wz S)
      | (go_at_call 43; refine Calls.mono (HC.out _ _ _ (S.get (i := 5) rfl).choose_spec (S.get (i := 6) rfl).choose_spec) ?_; rintro e wz ⟨rfl, hE⟩; replace S := S.ext (Keep.of_below hE); clear hE)
      | ((with_reducible apply wps_make vcells Tryd.underlying22 _ zero_Hdr S (n := c.programs.length)); (case hx => rfl); (case hy => rfl); (case hn => omega); clear S; intro bz wz S)
      | ((with_reducible refine tot_done ?ht ?_); (case ht => kernel_rfl))
      | ((with_reducible apply wps_boxa S); (case hx => rfl); clear S; intro bz wz S)
      | ((with_reducible apply wps_box1 (v := .int _ _) S); (case hx => rfl); (case h1 => rfl); clear S; intro bz wz S)
      | ((with_reducible apply wps_box1 (v := .bool _) S); (case hx => rfl); (case h1 => rfl); clear S; intro bz wz S)
      | ((with_reducible apply wps_box1 (v := .slice _ _ _) S); (case hx => rfl); (case h1 => rfl); clear S; intro bz wz S)
      | ((with_reducible apply wps_box1 (v := .pointer _) S); (case hx => rfl); (case h1 => rfl); clear S; intro bz wz S)
      | ((with_reducible apply wps_box1 (v := .map _) S); (case hx => rfl); (case h1 => rfl); clear S; intro bz wz S)
      | ((with_reducible apply wps_box1 (v := .string _) S); (case hx => rfl); (case h1 => rfl); clear S; intro bz wz S)
      | ((with_reducible apply wps_box1 (v := .func _ _ _) S); (case hx => rfl); (case h1 => rfl); clear S; intro bz wz S)
      | ((with_reducible apply wps_load S 0); (case hx => rfl); (case hi => rfl); (case hT => decide +kernel); (case hu => rfl))
      | ((with_reducible apply wps_loada (T := 26) (k := 6) S 0); (case hx => rfl); (case hi => rfl); (case hT => decide +kernel); (case hk => exact Nat.le_of_ble_eq_true rfl))
      | ((with_reducible apply wps_load S 1); (case hx => rfl); (case hi => rfl); (case hT => decide +kernel); (case hu => rfl))
      | ((with_reducible apply wps_loada (T := 26) (k := 6) S 1); (case hx => rfl); (case hi => rfl); (case hT => decide +kernel); (case hk => exact Nat.le_of_ble_eq_true rfl))
    clear HC
    replace S := (S.slsNil Instr.cells 5).pick [2, 1, 0, 3, 4, 5, 6] rfl
    simp only [pick, nth] at S
    go_loopw [20] (fun i wr => NewRel bx bz #[.slice aP c.programs.length cP, .slice aL c.lps.length cL, .slice aS c.starts.length cS, .int .i64 c.fin, .int .i64 c.fuel, .int .i64 c.fan] aP cP (.slice aL c.lps.length cL) (.slice aS c.starts.length cS) hs c w i wr) (fun i _ => c.programs.length - (intOf i).toNat)
    case atStart => exact ⟨0, [], Nat.zero_le _, rfl, rfl, S⟩
    case round =>
      clear S
      obtain ⟨j, gs, hj, rfl, hgs, S⟩ := hrel
      by_cases hlt : j < c.programs.length
      · obtain ⟨p, hp⟩ : ∃ p, c.programs[j]? = some p := ⟨_, List.getElem?_eq_getElem hlt⟩
        obtain ⟨v, hv⟩ : ∃ v, hs[j]? = some v := ⟨_, List.getElem?_eq_getElem (by omega)⟩
        obtain ⟨R, o, rfl⟩ : ∃ R o, aP = some ⟨R, o, none⟩ := (S.sl 4 rfl).elim fun F h => h.head (by omega)
        have hlt2 : (j : Int) < c.programs.length := by omega
        have hpn := hm2 p (List.mem_of_getElem? hp)
        obtain ⟨av, cv, rfl, _⟩ := (S.sls 3 rfl).elim fun F h => (h.2 j v p hv hp).form
        have hr : List.replicate (c.programs.length - j) nilS = nilS :: List.replicate (c.programs.length - (j + 1)) nilS := by
          rw [← List.replicate_succ]; congr 1; omega
        rw [hr] at S
        have hj0 : (gs ++ nilS :: List.replicate (c.programs.length - (j + 1)) nilS)[j]? = some nilS := by rw [← hgs]; simp
        clear hr
        have Hp := Lib.hid hp
        have Hv := Lib.hid hv
        have Hj0 := Lib.hid hj0
        clear hp hv hj0
        go_wp2_with first
          | ((with_reducible apply wps_load_el S 4 (hj := Hv.out) (q := 0) (u := (.slice av p.length cv))); (case hx => rfl); (case hi => rfl); (case hn => omega); (case hT => decide +kernel); (case hu => rfl))
          | ((with_reducible refine tot_done ?ht ?_); (case ht => kernel_rfl))
          | ((with_reducible apply wps_boxa S); (case hx => rfl); clear S; intro bz wz S)
          | ((with_reducible apply wps_box1 (v := .int _ _) S); (case hx => rfl); (case h1 => rfl); clear S; intro bz wz S)
          | ((with_reducible apply wps_box1 (v := .bool _) S); (case hx => rfl); (case h1 => rfl); clear S; intro bz wz S)
          | ((with_reducible apply wps_box1 (v := .slice _ _ _) S); (case hx => rfl); (case h1 => rfl); clear S; intro bz wz S)
          | ((with_reducible apply wps_box1 (v := .pointer _) S); (case hx => rfl); (case h1 => rfl); clear S; intro bz wz S)
          | ((with_reducible apply wps_box1 (v := .map _) S); (case hx => rfl); (case h1 => rfl); clear S; intro bz wz S)
          | ((with_reducible apply wps_box1 (v := .string _) S); (case hx => rfl); (case h1 => rfl); clear S; intro bz wz S)
          | ((with_reducible apply wps_box1 (v := .func _ _ _) S); (case hx => rfl); (case h1 => rfl); clear S; intro bz wz S)
          | ((with_reducible apply wps_load S 0); (case hx => rfl); (case hi => rfl); (case hT => decide +kernel); (case hu => rfl))
          | ((with_reducible apply wps_loada (T := 26) (k := 6) S 0); (case hx => rfl); (case hi => rfl); (case hT => decide +kernel); (case hk => exact Nat.le_of_ble_eq_true rfl))
        refine Calls.mono (clone_In _ _ ((S.slsEl 3 rfl Hv.out Hp.out).get (i := 0) rfl).choose_spec (by omega)) ?_
        rintro e wz ⟨ad2, c2, rfl, _, T⟩
        replace S := S.join T rfl
        simp only [List.cons_append, List.nil_append] at S
        clear T
        go_wp2_with first
          | ((with_reducible apply wps_store_own vcells S 2 (hj := Hj0.out) (e' := (.slice ad2 p.length c2)) (q := 0)); (case hx => rfl); (case hn => omega); (case hi => rfl); (case hy => rfl); (case hT => decide +kernel); (case h1 => rfl); (case he => rfl); (case hq => decide); clear S; intro wz S; simp only [List.set_cons_succ, List.set_cons_zero] at S)
          | ((with_reducible refine tot_done ?ht ?_); (case ht => kernel_rfl))
          | ((with_reducible apply wps_boxa S); (case hx => rfl); clear S; intro bz wz S)
          | ((with_reducible apply wps_box1 (v := .int _ _) S); (case hx => rfl); (case h1 => rfl); clear S; intro bz wz S)
          | ((with_reducible apply wps_box1 (v := .bool _) S); (case hx => rfl); (case h1 => rfl); clear S; intro bz wz S)
          | ((with_reducible apply wps_box1 (v := .slice _ _ _) S); (case hx => rfl); (case h1 => rfl); clear S; intro bz wz S)
          | ((with_reducible apply wps_box1 (v := .pointer _) S); (case hx => rfl); (case h1 => rfl); clear S; intro bz wz S)
          | ((with_reducible apply wps_box1 (v := .map _) S); (case hx => rfl); (case h1 => rfl); clear S; intro bz wz S)
          | ((with_reducible apply wps_box1 (v := .string _) S); (case hx => rfl); (case h1 => rfl); clear S; intro bz wz S)
          | ((with_reducible apply wps_box1 (v := .func _ _ _) S); (case hx => rfl); (case h1 => rfl); clear S; intro bz wz S)
          | ((with_reducible apply wps_load S 0); (case hx => rfl); (case hi => rfl); (case hT => decide +kernel); (case hu => rfl))
          | ((with_reducible apply wps_loada (T := 26) (k := 6) S 0); (case hx => rfl); (case hi => rfl); (case hT => decide +kernel); (case hk => exact Nat.le_of_ble_eq_true rfl))
          | ((with_reducible apply wps_load S 1); (case hx => rfl); (case hi => rfl); (case hT => decide +kernel); (case hu => rfl))
          | ((with_reducible apply wps_loada (T := 26) (k := 6) S 1); (case hx => rfl); (case hi => rfl); (case hT => decide +kernel); (case hk => exact Nat.le_of_ble_eq_true rfl))
        rw [hset hgs.symm] at S
        replace S := ((S.freeze false 0 incells rfl).pick [0, 3, 1, 2, 4, 5, 6, 7] rfl)
        simp only [List.set_cons_zero, pick, nth] at S
        replace S := S.slsSnoc.pick [1, 2, 0, 3, 4, 5, 6] rfl
        simp only [pick, nth] at S
        go_roundw
        case rel =>
          refine ⟨j + 1, gs ++ [.slice ad2 p.length c2], by omega, by go_num, by simp [hgs], ?_⟩
          have ht : c.programs.take (j + 1) = c.programs.take j ++ [p] := by rw [List.take_add_one, Hp.out]; rfl
          rw [ht]
          exact S
        case measure => first | (simp [intOf]; done) | (simp [intOf]; omega)
      · obtain rfl : j = c.programs.length := by omega
        rw [Nat.sub_self, List.replicate_zero, List.append_nil, List.take_length] at S
        replace S := S.freeze false 1 vcells rfl
        simp only [List.set_cons_succ, List.set_cons_zero] at S
        obtain ⟨ps, ls, ss, fin, fuel, fan⟩ := c
        have hz := He.out
        simp only at S hp1 hp2 hp3 hlen
        go_wp2_with first
          | ((with_reducible apply wps_store S 0); (case hx => rfl); (case hy => rfl); (case hi => rfl); (case hT => decide +kernel); (case h1 => rfl); (case hn => exact Nat.le_of_ble_eq_true rfl); clear S; intro wz S; simp only [List.set_cons_zero, List.setIfInBounds_toArray] at S)
          | ((with_reducible refine tot_done ?ht ?_); (case ht => kernel_rfl))
          | ((with_reducible apply wps_boxa S); (case hx => rfl); clear S; intro bz wz S)
          | ((with_reducible apply wps_box1 (v := .int _ _) S); (case hx => rfl); (case h1 => rfl); clear S; intro bz wz S)
          | ((with_reducible apply wps_box1 (v := .bool _) S); (case hx => rfl); (case h1 => rfl); clear S; intro bz wz S)
          | ((with_reducible apply wps_box1 (v := .slice _ _ _) S); (case hx => rfl); (case h1 => rfl); clear S; intro bz wz S)
          | ((with_reducible apply wps_box1 (v := .pointer _) S); (case hx => rfl); (case h1 => rfl); clear S; intro bz wz S)
          | ((with_reducible apply wps_box1 (v := .map _) S); (case hx => rfl); (case h1 => rfl); clear S; intro bz wz S)
          | ((with_reducible apply wps_box1 (v := .string _) S); (case hx => rfl); (case h1 => rfl); clear S; intro bz wz S)
          | ((with_reducible apply wps_box1 (v := .func _ _ _) S); (case hx => rfl); (case h1 => rfl); clear S; intro bz wz S)
          | ((with_reducible apply wps_load S 0); (case hx => rfl); (case hi => rfl); (case hT => decide +kernel); (case hu => rfl))
          | ((with_reducible apply wps_loada (T := 26) (k := 6) S 0); (case hx => rfl); (case hi => rfl); (case hT => decide +kernel); (case hk => exact Nat.le_of_ble_eq_true rfl))
        refine Calls.mono (clone_Pl _ _ (S.get (i := 5) rfl).choose_spec (by omega)) ?_
        rintro e wz ⟨ad2, c2, rfl, _, T⟩
        replace S := ((S.join T rfl).freeze false 0 plcells rfl).pick [1, 0, 2, 3, 7] rfl
        simp only [List.cons_append, List.nil_append, List.set_cons_zero, pick, nth] at S
        clear T
        go_wp2_with first
          | ((with_reducible apply wps_store S 0); (case hx => rfl); (case hy => rfl); (case hi => rfl); (case hT => decide +kernel); (case h1 => rfl); (case hn => exact Nat.le_of_ble_eq_true rfl); clear S; intro wz S; simp only [List.set_cons_succ, List.set_cons_zero, List.setIfInBounds_toArray] at S)
          | ((with_reducible refine tot_done ?ht ?_); (case ht => kernel_rfl))
          | ((with_reducible apply wps_boxa S); (case hx => rfl); clear S; intro bz wz S)
          | ((with_reducible apply wps_box1 (v := .int _ _) S); (case hx => rfl); (case h1 => rfl); clear S; intro bz wz S)
          | ((with_reducible apply wps_box1 (v := .bool _) S); (case hx => rfl); (case h1 => rfl); clear S; intro bz wz S)
          | ((with_reducible apply wps_box1 (v := .slice _ _ _) S); (case hx => rfl); (case h1 => rfl); clear S; intro bz wz S)
          | ((with_reducible apply wps_box1 (v := .pointer _) S); (case hx => rfl); (case h1 => rfl); clear S; intro bz wz S)
          | ((with_reducible apply wps_box1 (v := .map _) S); (case hx => rfl); (case h1 => rfl); clear S; intro bz wz S)
          | ((with_reducible apply wps_box1 (v := .string _) S); (case hx => rfl); (case h1 => rfl); clear S; intro bz wz S)
          | ((with_reducible apply wps_box1 (v := .func _ _ _) S); (case hx => rfl); (case h1 => rfl); clear S; intro bz wz S)
          | ((with_reducible apply wps_load S 0); (case hx => rfl); (case hi => rfl); (case hT => decide +kernel); (case hu => rfl))
          | ((with_reducible apply wps_loada (T := 26) (k := 6) S 0); (case hx => rfl); (case hi => rfl); (case hT => decide +kernel); (case hk => exact Nat.le_of_ble_eq_true rfl))
        refine Calls.mono (clone_Sta _ _ (S.get (i := 4) rfl).choose_spec (by omega)) ?_
        rintro e wz ⟨ad3, c3, rfl, _, T⟩
        replace S := ((S.join T rfl).freeze false 0 stcells rfl).pick [1, 3, 2, 0, 4] rfl
        simp only [List.cons_append, List.nil_append, List.set_cons_zero, pick, nth] at S
        clear T
        go_wp2_with first
          | ((with_reducible apply wps_store S 0); (case hx => rfl); (case hy => rfl); (case hi => rfl); (case hT => decide +kernel); (case h1 => rfl); (case hn => exact Nat.le_of_ble_eq_true rfl); clear S; intro wz S; simp only [List.set_cons_succ, List.set_cons_zero, List.setIfInBounds_toArray] at S)
          | ((with_reducible apply wps_boxa S); (case hx => rfl); clear S; intro b2 wz S)
          | ((with_reducible refine tot_done ?ht ?_); (case ht => kernel_rfl))
          | ((with_reducible apply wps_boxa S); (case hx => rfl); clear S; intro bz wz S)
          | ((with_reducible apply wps_box1 (v := .int _ _) S); (case hx => rfl); (case h1 => rfl); clear S; intro bz wz S)
          | ((with_reducible apply wps_box1 (v := .bool _) S); (case hx => rfl); (case h1 => rfl); clear S; intro bz wz S)
          | ((with_reducible apply wps_box1 (v := .slice _ _ _) S); (case hx => rfl); (case h1 => rfl); clear S; intro bz wz S)
          | ((with_reducible apply wps_box1 (v := .pointer _) S); (case hx => rfl); (case h1 => rfl); clear S; intro bz wz S)
          | ((with_reducible apply wps_box1 (v := .map _) S); (case hx => rfl); (case h1 => rfl); clear S; intro bz wz S)
          | ((with_reducible apply wps_box1 (v := .string _) S); (case hx => rfl); (case h1 => rfl); clear S; intro bz wz S)
          | ((with_reducible apply wps_box1 (v := .func _ _ _) S); (case hx => rfl); (case h1 => rfl); clear S; intro bz wz S)
          | ((with_reducible apply wps_load S 0); (case hx => rfl); (case hi => rfl); (case hT => decide +kernel); (case hu => rfl))
          | ((with_reducible apply wps_loada (T := 26) (k := 6) S 0); (case hx => rfl); (case hi => rfl); (case hT => decide +kernel); (case hk => exact Nat.le_of_ble_eq_true rfl))
        go_ret2
        replace S := S.pick [0, 2, 3, 4, 5] rfl
        simp only [pick, nth] at S
        refine .inr ⟨trivial, _, _, _, rfl, S.modNew⟩
end Go.Proofs.YtfiiaechippboaaDoor
/- A configuration out of its parts. -/
namespace Go.Proofs.YtfiiaechippboaaDoor
open Go Go.RowKit Reg Mem

theorem cfg_any {vP vL vS : Value} {hs : List Value} {c : Cfg} {w : World} {F1 F2 F3 F4 : Nat → Prop} (h1 : (Sl true vcell 1 vP hs).at_ w F1) (h2 : (Sl true Place.cells 5 vL c.lps).at_ w F2) (h3 : (Sl true Start.cells 4 vS c.starts).at_ w F3) (h4 : (Sls true Instr.cells 5 hs c.programs).at_ w F4) :
    (CfgA true [vP, vL, vS, .int .i64 c.fin, .int .i64 c.fuel, .int .i64 c.fan] hs c).at_ w (fun b => b < w.heap.size) :=
  ⟨⟨⟨vP, vL, vS, rfl, h1.1.mono h1.2, h2.1.mono h2.2, h3.1.mono h3.2⟩, h4.1.mono h4.2⟩, fun _ h => h⟩
theorem sls_one {α : Type} {enc : α → List Value} {k : Nat} {v : Value} {xs : List α} {w : World} {F : Nat → Prop} (h : (Sl true enc k v xs).at_ w F) : (Sls true enc k [v] [xs]).at_ w F :=
  ⟨⟨rfl, fun i u ys hu hy => by
    cases i with
    | zero => simp at hu hy; subst hu; subst hy; exact h.1
    | succ i => simp at hu⟩, h.2⟩
end Go.Proofs.YtfiiaechippboaaDoor
/- The walks of the law's Few and ModelEvents. -/
namespace Go.Proofs.YtfiiaechippboaaDoor
open Go Go.RowKit Reg Mem

def fewB (c : Cfg) : Bool := c.programs.all (fun p => decide (p.length ≤ 80)) && (decide (c.programs.length ≤ 40) && (decide (c.lps.length ≤ 40) && decide (c.starts.length ≤ 300)))
theorem few_iff {c : Cfg} : fewB c = true ↔ (∀ p ∈ c.programs, p.length ≤ 80) ∧ c.programs.length ≤ 40 ∧ c.lps.length ≤ 40 ∧ c.starts.length ≤ 300 := by
  simp [fewB]
def FewRel (bx : Nat) (cs : Array Value) (vP : Value) (hs : List Value) (ps : List (List Instr)) (w : World) (i : Value) (wr : World) : Prop :=
  ∃ j : Nat, j ≤ ps.length ∧ i = .int .i64 j ∧ Hid (∀ (q : Nat) y, q < j → ps[q]? = some y → y.length ≤ 80) ∧ St (fun _ => False) w wr [Blk false bx cs 26, Sls true Instr.cells 5 hs ps, Sl true vcell 1 vP hs]
set_option maxRecDepth 100000 in
set_option maxHeartbeats 4000000 in
theorem few_calls (vs hs : List Value) (c : Cfg) (w : World) (F : Nat → Prop) (h : (CfgA true vs hs c).at_ w F) (hw : Wide c) : Calls Tryd.prog 25 #[.agg vs.toArray] w fun r w' => r = .returned (.bool (fewB c)) ∧ Below w.heap.size w w' := by
  have S : St (fun _ => False) w w [CfgA true vs hs c] := (St.init _ w).share rfl rfl h
  obtain ⟨aP, cP, aL, cL, aS, cS, rfl, hlen, S⟩ := S.cfg 0 rfl
  replace S := S.pick [0, 1] rfl
  simp only [pick, nth] at S
  clear h
  have hp1 : c.programs.length ≤ 9223372036854775807 := Nat.le_trans hw.p (by decide)
  obtain ⟨ps, ls, ss, fin, fuel, fan⟩ := c
  clear hw
  simp only at *
  go_enter Tryd.func25, Tryd.ntmps25
  go_wp2_with first
    | go_skip
    | ((with_reducible refine wpList_skip ?hw ?_); (case hw => with_unfolding_all rfl); simp only [Act.put, List.setIfInBounds_toArray, List.set_cons_succ, List.set_cons_zero])
    | ((with_reducible apply wps_boxa S); (case hx => rfl); clear S; intro bx wz S)
    | ((with_reducible refine tot_done ?ht ?_); (case ht => kernel_rfl))
    | ((with_reducible apply wps_boxa S); (case hx => rfl); clear S; intro bz wz S)
    | ((with_reducible apply wps_box1 (v := .int _ _) S); (case hx => rfl); (case h1 => rfl); clear S; intro bz wz S)
    | ((with_reducible apply wps_box1 (v := .bool _) S); (case hx => rfl); (case h1 => rfl); clear S; intro bz wz S)
    | ((with_reducible apply wps_box1 (v := .slice _ _ _) S); (case hx => rfl); (case h1 => rfl); clear S; intro bz wz S)
    | ((with_reducible apply wps_box1 (v := .pointer _) S); (case hx => rfl); (case h1 => rfl); clear S; intro bz wz S)
    | ((with_reducible apply wps_box1 (v := .map _) S); (case hx => rfl); (case h1 => rfl); clear S; intro bz wz S)
    | ((with_reducible apply wps_box1 (v := .string _) S); (case hx => rfl); (case h1 => rfl); clear S; intro bz wz S)
    | ((with_reducible apply wps_box1 (v := .func _ _ _) S); (case hx => rfl); (case h1 => rfl); clear S; intro bz wz S)
    | ((with_reducible apply wps_load S 0); (case hx => rfl); (case hi => rfl); (case hT => decide +kernel); (case hu => rfl))
  go_loopw [3] (fun i wr => FewRel bx #[.slice aP ps.length cP, .slice aL ls.length cL, .slice aS ss.length cS, .int .i64 fin, .int .i64 fuel, .int .i64 fan] (.slice aP ps.length cP) hs ps w i wr) (fun i _ => ps.length - (intOf i).toNat)
  case atStart => exact ⟨0, Nat.zero_le _, rfl, fun q y h => by omega, S⟩
  case round =>
    clear S
    obtain ⟨j, hj, rfl, Hz, S⟩ := hrel
    by_cases hlt : j < ps.length
    · obtain ⟨p, hp⟩ : ∃ p, ps[j]? = some p := ⟨_, List.getElem?_eq_getElem hlt⟩
      obtain ⟨v, hv⟩ : ∃ v, hs[j]? = some v := ⟨_, List.getElem?_eq_getElem (by omega)⟩
      obtain ⟨R, o, rfl⟩ : ∃ R o, aP = some ⟨R, o, none⟩ := (S.sl 2 rfl).elim fun F h => h.head (by omega)
      have hlt2 : (j : Int) < ps.length := by omega
      obtain ⟨av, cv, rfl, _⟩ := (S.sls 1 rfl).elim fun F h => (h.2 j v p hv hp).form
      have Hp := Lib.hid hp
      have Hv := Lib.hid hv
      clear hp hv
      by_cases h8 : (80 : Int) < p.length
      · go_wp2_with first
          | go_skip
          | ((with_reducible refine wpList_skip ?hw ?_); (case hw => with_unfolding_all rfl); simp only [Act.put, List.setIfInBounds_toArray, List.set_cons_succ, List.set_cons_zero])
          | ((with_reducible apply wps_load_el S 2 (hj := Hv.out) (q := 0) (u := (.slice av p.length cv))); (case hx => rfl); (case hi => rfl); (case hn => omega); (case hT => decide +kernel); (case hu => rfl))
          | ((with_reducible refine tot_done ?ht ?_); (case ht => kernel_rfl))
          | ((with_reducible apply wps_load S 0); (case hx => rfl); (case hi => rfl); (case hT => decide +kernel); (case hu => rfl))
        go_ret
        refine ⟨ret_bool ?_, S.below⟩
        symm
        rw [Bool.eq_false_iff]
        intro h
        have := (few_iff.1 h).1 p (List.mem_of_getElem? Hp.out)
        omega
      · go_wp2_with first
          | go_skip
          | ((with_reducible refine wpList_skip ?hw ?_); (case hw => with_unfolding_all rfl); simp only [Act.put, List.setIfInBounds_toArray, List.set_cons_succ, List.set_cons_zero])
          | ((with_reducible apply wps_load_el S 2 (hj := Hv.out) (q := 0) (u := (.slice av p.length cv))); (case hx => rfl); (case hi => rfl); (case hn => omega); (case hT => decide +kernel); (case hu => rfl))
          | ((with_reducible refine tot_done ?ht ?_); (case ht => kernel_rfl))
          | ((with_reducible apply wps_load S 0); (case hx => rfl); (case hi => rfl); (case hT => decide +kernel); (case hu => rfl))
        go_roundw
        case rel => exact ⟨j + 1, by omega, by go_num, snoc_all Hz.out Hp.out (by omega), S⟩
        case measure => first | (simp [intOf]; done) | (simp [intOf]; omega)
    · obtain rfl : j = ps.length := by omega
      have HA : Hid ((ps.all fun p => decide (p.length ≤ 80)) = true) := by
        show _ = _
        rw [List.all_eq_true]; intro p hp; simpa using all_of Hz.out p hp
      by_cases k1 : (ps.length : Int) ≤ 40
      · by_cases k2 : (ls.length : Int) ≤ 40
        · go_wp2_with first
            | go_skip
            | ((with_reducible refine wpList_skip ?hw ?_); (case hw => with_unfolding_all rfl); simp only [Act.put, List.setIfInBounds_toArray, List.set_cons_succ, List.set_cons_zero])
            | ((with_reducible refine tot_done ?ht ?_); (case ht => kernel_rfl))
            | ((with_reducible apply wps_load S 0); (case hx => rfl); (case hi => rfl); (case hT => decide +kernel); (case hu => rfl))
          go_ret
          exact ⟨ret_bool (by simp only [fewB]; rw [HA.out, decide_eq_true (by omega : ps.length ≤ 40), decide_eq_true (by omega : ls.length ≤ 40)]; simp; try omega), S.below⟩
        · go_wp2_with first
            | go_skip
            | ((with_reducible refine wpList_skip ?hw ?_); (case hw => with_unfolding_all rfl); simp only [Act.put, List.setIfInBounds_toArray, List.set_cons_succ, List.set_cons_zero])
            | ((with_reducible refine tot_done ?ht ?_); (case ht => kernel_rfl))
            | ((with_reducible apply wps_load S 0); (case hx => rfl); (case hi => rfl); (case hT => decide +kernel); (case hu => rfl))
          go_ret
          exact ⟨ret_bool (by simp only [fewB]; rw [HA.out, decide_eq_false (by omega : ¬ ls.length ≤ 40)]; simp), S.below⟩
      · go_wp2_with first
          | go_skip
          | ((with_reducible refine wpList_skip ?hw ?_); (case hw => with_unfolding_all rfl); simp only [Act.put, List.setIfInBounds_toArray, List.set_cons_succ, List.set_cons_zero])
          | ((with_reducible refine tot_done ?ht ?_); (case ht => kernel_rfl))
          | ((with_reducible apply wps_load S 0); (case hx => rfl); (case hi => rfl); (case hT => decide +kernel); (case hu => rfl))
        go_ret
        exact ⟨ret_bool (by simp only [fewB]; rw [decide_eq_false (by omega : ¬ ps.length ≤ 40)]; simp), S.below⟩
end Go.Proofs.YtfiiaechippboaaDoor
/- Plain: the events that are there at first, in order. No program in sight. -/
namespace Go.Proofs.YtfiiaechippboaaDoor
open Go Go.RowKit Mem

def evsOf (c : Cfg) : List Event := sortE (startsFrom 0 c.starts)
theorem slt_rise {x y : TE} (h : slt x y) : y.1.key.lt x.1.key = false := by
  simp only [slt, tless, Bool.eq_false_iff, ne_eq, Key.lt_iff] at *; omega
theorem sortE_rise (l : List Event) : (sortE l).Pairwise fun a b => b.key.lt a.key = false := by
  obtain ⟨ys, _, h2, h3⟩ := sortE_ex l
  rw [← h3]
  exact List.pairwise_map.2 (h2.imp fun h => slt_rise h)
/-- A configuration that may be. -/
structure CfgOk (c : Cfg) : Prop where
  sizes : sizesOk c
  starts : c.starts.length ≤ 256
  progs : ∀ p ∈ c.programs, codeE p = 0
  lps : ∀ p ∈ c.lps, 0 ≤ p.program ∧ p.program < c.programs.length
  dst : ∀ s ∈ c.starts, 0 ≤ s.dst ∧ s.dst < c.lps.length
  at_ : ∀ s ∈ c.starts, 0 ≤ s.at_ ∧ s.at_ ≤ c.fin
end Go.Proofs.YtfiiaechippboaaDoor
/- The walks of a model's methods, at a model and at nil. -/
namespace Go.Proofs.YtfiiaechippboaaDoor
open Go Go.RowKit Reg Mem

section
variable (R : Nat) (vs hs : List Value) (c : Cfg) (w : World) (F : Nat → Prop)
set_option maxRecDepth 100000 in
theorem has_calls (lp : Int) (h : (ModA true 93 R vs hs c).at_ w F) : Calls Tryd.prog 47 #[.pointer (some ⟨R, 0, none⟩), .int .i64 lp] w fun r w' => r = .returned (.bool (decide (0 ≤ lp ∧ lp < c.lps.length))) ∧ Below w.heap.size w w' := by
  have S : St (fun _ => False) w w [ModA true 93 R vs hs c] := (St.init _ w).share rfl rfl h
  clear h
  replace S := S.modBlk 0 rfl
  obtain ⟨aP, cP, aL, cL, aS, cS, rfl, hlen, S⟩ := (S.modCfg 1 rfl).cfg 0 rfl
  replace S := S.pick [5] rfl
  simp only [pick, nth] at S
  by_cases h1 : 0 ≤ lp
  · go_enter Tryd.func47, Tryd.ntmps47
    go_wp2_with first
      | go_skip
      | ((with_reducible refine wpList_skip ?hw ?_); (case hw => with_unfolding_all rfl); simp only [Act.put, List.setIfInBounds_toArray, List.set_cons_succ, List.set_cons_zero])
      | ((with_reducible refine tot_done ?ht ?_); (case ht => kernel_rfl))
      | ((with_reducible apply wps_load S 0); (case hx => rfl); (case hi => rfl); (case hT => decide +kernel); (case hu => rfl))
    go_ret
    exact ⟨ret_bool (by simp [h1]), S.below⟩
  · go_enter Tryd.func47, Tryd.ntmps47
    go_wp2_with first
      | go_skip
      | ((with_reducible refine wpList_skip ?hw ?_); (case hw => with_unfolding_all rfl); simp only [Act.put, List.setIfInBounds_toArray, List.set_cons_succ, List.set_cons_zero])
      | ((with_reducible refine tot_done ?ht ?_); (case ht => kernel_rfl))
      | ((with_reducible apply wps_load S 0); (case hx => rfl); (case hi => rfl); (case hT => decide +kernel); (case hu => rfl))
    go_ret
    exact ⟨ret_bool (by simp; omega), S.below⟩
set_option maxRecDepth 100000 in
theorem lps_calls (h : (ModA true 93 R vs hs c).at_ w F) : Calls Tryd.prog 18 #[.pointer (some ⟨R, 0, none⟩)] w fun r w' => r = .returned (.int .i64 (c.lps.length : Int)) ∧ Below w.heap.size w w' := by
  have S : St (fun _ => False) w w [ModA true 93 R vs hs c] := (St.init _ w).share rfl rfl h
  clear h
  replace S := S.modBlk 0 rfl
  obtain ⟨aP, cP, aL, cL, aS, cS, rfl, hlen, S⟩ := (S.modCfg 1 rfl).cfg 0 rfl
  replace S := S.pick [5] rfl
  simp only [pick, nth] at S
  go_enter Tryd.func18, Tryd.ntmps18
  go_wp2_with first
    | ((with_reducible refine tot_done ?ht ?_); (case ht => kernel_rfl))
    | ((with_reducible apply wps_load S 0); (case hx => rfl); (case hi => rfl); (case hT => decide +kernel); (case hu => rfl))
  go_ret
  exact ⟨by simp, S.below⟩
set_option maxRecDepth 100000 in
theorem end_calls (h : (ModA true 93 R vs hs c).at_ w F) : Calls Tryd.prog 19 #[.pointer (some ⟨R, 0, none⟩)] w fun r w' => r = .returned (.int .i64 c.fin) ∧ Below w.heap.size w w' := by
  have S : St (fun _ => False) w w [ModA true 93 R vs hs c] := (St.init _ w).share rfl rfl h
  clear h
  replace S := S.modBlk 0 rfl
  obtain ⟨aP, cP, aL, cL, aS, cS, rfl, hlen, S⟩ := (S.modCfg 1 rfl).cfg 0 rfl
  replace S := S.pick [5] rfl
  simp only [pick, nth] at S
  go_enter Tryd.func19, Tryd.ntmps19
  go_wp2_with first
    | ((with_reducible refine tot_done ?ht ?_); (case ht => kernel_rfl))
    | ((with_reducible apply wps_load S 0); (case hx => rfl); (case hi => rfl); (case hT => decide +kernel); (case hu => rfl))
  go_ret
  exact ⟨by simp, S.below⟩
set_option maxRecDepth 100000 in
theorem fuel_calls (h : (ModA true 93 R vs hs c).at_ w F) : Calls Tryd.prog 33 #[.pointer (some ⟨R, 0, none⟩)] w fun r w' => r = .returned (.int .i64 c.fuel) ∧ Below w.heap.size w w' := by
  have S : St (fun _ => False) w w [ModA true 93 R vs hs c] := (St.init _ w).share rfl rfl h
  clear h
  replace S := S.modBlk 0 rfl
  obtain ⟨aP, cP, aL, cL, aS, cS, rfl, hlen, S⟩ := (S.modCfg 1 rfl).cfg 0 rfl
  replace S := S.pick [5] rfl
  simp only [pick, nth] at S
  go_enter Tryd.func33, Tryd.ntmps33
  go_wp2_with first
    | ((with_reducible refine tot_done ?ht ?_); (case ht => kernel_rfl))
    | ((with_reducible apply wps_load S 0); (case hx => rfl); (case hi => rfl); (case hT => decide +kernel); (case hu => rfl))
  go_ret
  exact ⟨by simp, S.below⟩
set_option maxRecDepth 100000 in
theorem fan_calls (h : (ModA true 93 R vs hs c).at_ w F) : Calls Tryd.prog 20 #[.pointer (some ⟨R, 0, none⟩)] w fun r w' => r = .returned (.int .i64 c.fan) ∧ Below w.heap.size w w' := by
  have S : St (fun _ => False) w w [ModA true 93 R vs hs c] := (St.init _ w).share rfl rfl h
  clear h
  replace S := S.modBlk 0 rfl
  obtain ⟨aP, cP, aL, cL, aS, cS, rfl, hlen, S⟩ := (S.modCfg 1 rfl).cfg 0 rfl
  replace S := S.pick [5] rfl
  simp only [pick, nth] at S
  go_enter Tryd.func20, Tryd.ntmps20
  go_wp2_with first
    | ((with_reducible refine tot_done ?ht ?_); (case ht => kernel_rfl))
    | ((with_reducible apply wps_load S 0); (case hx => rfl); (case hi => rfl); (case hT => decide +kernel); (case hu => rfl))
  go_ret
  exact ⟨by simp, S.below⟩
/-- The state of a process that is not there. -/
def state0 : List Value := [.int .i64 0, .int .i64 0, .int .i64 0, .int .i64 0]
def State.cells (s : State) : List Value := [.int .i64 s.n0, .int .i64 s.n1, .int .i64 s.n2, .int .i64 s.n3]
/-- What Clone leaves. -/
def ClonePost (p : List Instr) (w : World) (e : Ending) (w' : World) : Prop :=
  ∃ ad c, e = .returned (.slice ad p.length c) ∧ St (fun _ => False) w w' [Own 70 Instr.cells 5 (.slice ad p.length c) p]
set_option maxRecDepth 100000 in
set_option maxHeartbeats 4000000 in
theorem program_at (j k : Nat) (l : Place) (p : List Instr) (h : (ModA true 93 R vs hs c).at_ w F) (hl : c.lps[j]? = some l) (hk : l.program = k) (hp : c.programs[k]? = some p) (hn : p.length ≤ 65536) : Calls Tryd.prog 30 #[.pointer (some ⟨R, 0, none⟩), .int .i64 j] w (ClonePost p w) := by
  have S : St (fun _ => False) w w [ModA true 93 R vs hs c] := (St.init _ w).share rfl rfl h
  clear h
  have hlt := (List.getElem?_eq_some_iff.1 hl).1
  have hlt3 := (List.getElem?_eq_some_iff.1 hp).1
  have HA : Hid (∀ w F, (ModA true 93 R vs hs c).at_ w F → Calls Tryd.prog 47 #[.pointer (some ⟨R, 0, none⟩), .int .i64 (j : Int)] w fun r w' => r = .returned (.bool true) ∧ Below w.heap.size w w') := fun w F h => by
    have := has_calls R vs hs c w F j h; rwa [decide_eq_true (by omega)] at this
  replace S := S.modBlk 0 rfl
  obtain ⟨aP, cP, aL, cL, aS, cS, rfl, hlen, S⟩ := (S.modCfg 1 rfl).cfg 0 rfl
  replace S := S.pick [5, 2, 6, 0, 1] rfl
  simp only [pick, nth] at S
  obtain ⟨RL, o, rfl⟩ : ∃ R o, aL = some ⟨R, o, none⟩ := (S.sl 1 rfl).elim fun F h => h.head (by omega)
  obtain ⟨RP, oP, rfl⟩ : ∃ R o, aP = some ⟨R, o, none⟩ := (S.sl 4 rfl).elim fun F h => h.head (by omega)
  have hlt2 : (j : Int) < c.lps.length := by omega
  have hlt4 : (k : Int) < c.programs.length := by omega
  obtain ⟨v, hv⟩ : ∃ v, hs[k]? = some v := ⟨_, List.getElem?_eq_getElem (by omega)⟩
  obtain ⟨av, cv, rfl, _⟩ := (S.sls 3 rfl).elim fun F h => (h.2 k v p hv hp).form
  obtain ⟨lp, lf⟩ := l
  simp only at hk
  subst hk
  have Hl := Lib.hid hl
  have Hp := Lib.hid hp
  have Hv := Lib.hid hv
  clear hl hp hv
  go_enter Tryd.func30, Tryd.ntmps30
  go_wp2_with first
    | (go_at_call 47; refine Calls.mono (HA.out _ _ (S.get (i := 2) rfl).choose_spec) ?_; rintro e wz ⟨rfl, hE⟩; replace S := S.ext (Keep.of_below hE); clear hE)
    | ((with_reducible refine tot_done ?ht ?_); (case ht => kernel_rfl))
    | ((with_reducible apply wps_load S 0); (case hx => rfl); (case hi => rfl); (case hT => decide +kernel); (case hu => rfl))
  (refine wp_region_w (soft := [0, 1, 2, 3, 4, 5, 6, 7, 8, 9, 10, 11, 12, 13, 14, 15]) S ?hm ?hB ?_); (case hm => kernel_rfl); (case hB => decide +kernel); clear S
  iterate 16
    (with_reducible apply softs_cons)
    (case hw =>
      (with_reducible apply soft_of); (case hi => rfl)
      intro T wz S
      simp only [List.cons_append, List.nil_append] at S
      go_wp2_with first
        | ((with_reducible apply wps_load_el S 4 (hj := Hv.out) (q := 0) (u := (.slice av p.length cv))); (case hx => rfl); (case hi => rfl); (case hn => omega); (case hT => decide +kernel); (case hu => rfl))
        | ((with_reducible apply wps_load_el S 1 (hj := Hl.out) (q := 0) (u := .int .i64 (⟨k,lf⟩:Place).program)); (case hx => rfl); (case hi => rfl); (case hn => omega); (case hT => decide +kernel); (case hu => rfl))
        | ((with_reducible apply wps_load_el S 1 (hj := Hl.out) (q := 1) (u := .int .i64 (⟨k,lf⟩:Place).first.n0)); (case hx => rfl); (case hi => rfl); (case hn => omega); (case hT => decide +kernel); (case hu => rfl))
        | ((with_reducible apply wps_load_el S 1 (hj := Hl.out) (q := 2) (u := .int .i64 (⟨k,lf⟩:Place).first.n1)); (case hx => rfl); (case hi => rfl); (case hn => omega); (case hT => decide +kernel); (case hu => rfl))
        | ((with_reducible apply wps_load_el S 1 (hj := Hl.out) (q := 3) (u := .int .i64 (⟨k,lf⟩:Place).first.n2)); (case hx => rfl); (case hi => rfl); (case hn => omega); (case hT => decide +kernel); (case hu => rfl))
        | ((with_reducible apply wps_load_el S 1 (hj := Hl.out) (q := 4) (u := .int .i64 (⟨k,lf⟩:Place).first.n3)); (case hx => rfl); (case hi => rfl); (case hn => omega); (case hT => decide +kernel); (case hu => rfl))
        | ((with_reducible refine tot_done ?ht ?_); (case ht => kernel_rfl))
        | ((with_reducible apply wps_load S 0); (case hx => rfl); (case hi => rfl); (case hT => decide +kernel); (case hu => rfl))
      exact ⟨rfl, S⟩)
    (case hs => exact ⟨_, rfl, by kernel_rfl⟩)
  refine softs_nil ?_
  repeat'
    (first
      | ((with_reducible apply W_hard1 (i := 16)); (case hn => rfl); (case hr => decide +kernel))
      | ((with_reducible apply W_hard1 (i := 17)); (case hn => rfl); (case hr => decide +kernel))
      | ((with_reducible apply W_hard2 (i := 16) (i' := 17)); (case hn => rfl); (case hr => decide +kernel)))
    all_goals
      intro wz S
      (with_reducible apply hard_of); (case hi => rfl)
      simp only [List.cons_append, List.nil_append] at S
      try simp only [pick, nth] at S
      go_wp2_with first
        | (go_at_call 44; refine Calls.mono (clone_In _ _ ((S.slsEl 3 rfl Hv.out Hp.out).get (i := 0) rfl).choose_spec (by omega)) ?_; rintro e wz ⟨ad2, c2, rfl, _, T⟩; replace S := S.join T rfl; clear T; simp only [List.cons_append, List.nil_append] at S)
        | ((with_reducible refine tot_done ?ht ?_); (case ht => kernel_rfl))
        | ((with_reducible apply wps_load S 0); (case hx => rfl); (case hi => rfl); (case hT => decide +kernel); (case hu => rfl))
        | ((with_reducible apply wps_load S 1); (case hx => rfl); (case hi => rfl); (case hT => decide +kernel); (case hu => rfl))
        | ((with_reducible apply wps_load S 2); (case hx => rfl); (case hi => rfl); (case hT => decide +kernel); (case hu => rfl))
        | ((with_reducible apply wps_load S 3); (case hx => rfl); (case hi => rfl); (case hT => decide +kernel); (case hu => rfl))
        | ((with_reducible apply wps_load S 4); (case hx => rfl); (case hi => rfl); (case hT => decide +kernel); (case hu => rfl))
        | ((with_reducible apply wps_load S 5); (case hx => rfl); (case hi => rfl); (case hT => decide +kernel); (case hu => rfl))
      first
        | refine ⟨_, S.pick [1, 2, 3, 4, 5, 6, 7, 8, 9, 0] rfl, ?_⟩
        | refine ⟨_, S.pick [1, 2, 3, 4, 5, 6, 7, 8, 0] rfl, ?_⟩
        | refine ⟨_, S.pick [1, 2, 3, 4, 5, 6, 7, 0] rfl, ?_⟩
        | refine ⟨_, S.pick [1, 2, 3, 4, 5, 6, 0] rfl, ?_⟩
        | refine ⟨_, S.pick [1, 2, 3, 4, 5, 0] rfl, ?_⟩
        | refine ⟨_, S, ?_⟩
  (with_reducible apply W_done); (case hn => rfl); (case hr => decide +kernel)
  clear S
  intro wz S
  simp only [List.cons_append, List.nil_append] at S
  try simp only [pick, nth] at S
  go_wp2_with first
    | ((with_reducible refine tot_done ?ht ?_); (case ht => kernel_rfl))
    | ((with_reducible apply wps_text S); (case hm => kernel_rfl); (case hB => decide +kernel); clear S; intro wz S)
    | ((with_reducible apply wps_load S 0); (case hx => rfl); (case hi => rfl); (case hT => decide +kernel); (case hu => rfl))
  go_ret
  exact ⟨_, _, rfl, S.pick [5] rfl⟩
end
end Go.Proofs.YtfiiaechippboaaDoor
/- A region that draws its order, beside things that its hard operations turn. Over any program. -/
namespace Go.Proofs.YtfiiaechippboaaDoor.Mem
open Go Go.RowKit Reg
section
variable {P : Program} {ops : Array Oper} {Q : Exit → Act → World → Prop} {G : Nat → Prop} {w0 : World} {L : List Asn}
theorem wp_region_wt {id : Nat} {soft : List Nat} {a : Act} {w : World} {T : List Asn} (S : St G w0 w (L ++ T)) (hm : P.follows .mixedOrders = true) (hB : softB ops soft = true)
    (h : Softs P ops Q G w0 L (fun A => W P ops Q G w0 L (ops.size - soft.length) T (after soft (Array.replicate ops.size false)) A) soft a) : (Code.region id ops true).wp P Q a w := by
  simp only [softB, Bool.and_eq_true] at hB
  have hc : Closed .any ops (Array.replicate ops.size false) := fun j oj _ hl => by
    rw [Array.getD_eq_getD_getElem?] at hl
    by_cases hj : j < ops.size
    · rw [Array.getElem?_replicate, if_pos hj] at hl; cases hl
    · rw [Array.getElem?_replicate, if_neg hj] at hl; cases hl
  have hle := Nat.le_of_ble_eq_true hB.2
  have := W_softs hB.1.1 soft (ops.size - soft.length) T _ a hc hB.1.2 h
  rw [show ops.size - soft.length + soft.length = ops.size by omega] at this
  exact wp_region_any hm (W_any _ T _ a _ this (S.ext (keep_drew w)))
end
end Go.Proofs.YtfiiaechippboaaDoor.Mem
/- 's = append(s, e)' where the bytes are bounded. Over any program. -/
namespace Go.Proofs.YtfiiaechippboaaDoor.Mem
open Go Go.RowKit Reg
section
variable {P : Program} {ops : Array Oper} {rest : List Oper} {a : Act} {Q : Exit → Act → World → Prop} {d : Option Tmp} {tt : TypeId} {p : String} {af : Array Edge} {gd : Option (Nat × Bool)} {x y : Operand}
variable {G : Nat → Prop} {w0 w : World} {L : List Asn}
theorem wps_append1B {α : Type} {sh : Bool} {T E E' : TypeId} {enc : α → List Value} {k bytes b : Nat} {cs : Array Value} {v : Value} {xs : List α} (el : Elem P T E k bytes) (hk : ∀ x, (enc x).length = k) (hone : ∀ x, ∀ u ∈ enc x, u.oneCell' = true) (hb1 : 1 ≤ bytes)
    (S : St G w0 w L) (i : Nat) (hi : L[i]? = some (Own E enc k v xs)) (j : Nat) (hj : L[j]? = some (Blk sh b cs E')) (e : α) (hx : a.eval x = v) (hy : a.eval y = .slice (some ⟨b, 0, none⟩) 1 1) (he : enc e = cs.toList) (hl : (xs.length + 1) * bytes ≤ 140737488355328)
    (next : ∀ ad n c w', Hid (n = xs.length + 1) → St G w0 w' (L.set i (Own E enc k (.slice ad n c) (xs ++ [e]))) → wpList P ops Q rest (a.put d (.slice ad n c)) w') (hgd : gOk gd ops a = true := by with_unfolding_all rfl) :
    wpList P ops Q ({ dst := d, op := .call { callee := .builtin .append, args := #[x, y], argTypes := #[T, T] }, type := tt, pos := p, after := af, guard := gd } :: rest) a w := by
  have h2 : xs.length + 1 ≤ (xs.length + 1) * bytes := Nat.le_mul_of_pos_right _ hb1
  exact wps_append (hgd := hgd) el hk hone S i hi (blk_rd [e] 1 (S.blk j hj) (by simpa [flatE] using he) rfl) (by simp [maxLen]; omega) (by simp; omega) hx hy fun v' w' S' => by
    have hl' : i < L.length := (List.getElem?_eq_some_iff.1 hi).1
    obtain ⟨F, h⟩ := S'.get (i := i) (List.getElem?_set_self hl')
    obtain ⟨ad, c, rfl⟩ := h.1.form
    exact next _ _ _ _ (by simp [Hid]) S'
end
end Go.Proofs.YtfiiaechippboaaDoor.Mem
/- The walks of boomeranglaw05.Plain and the law's same. -/
namespace Go.Proofs.YtfiiaechippboaaDoor
open Go Go.RowKit Reg Mem

set_option maxRecDepth 100000 in
theorem elem_RIn : Elem Tryd.prog 86 123 5 40 := ⟨_, .agg #[.int .i64 0, .int .i64 0, .int .i64 0, .int .i64 0, .int .i64 0], Tryd.underlying86, rfl, by kernel_rfl, by kernel_rfl, by kernel_rfl, by kernel_rfl, by omega⟩
def PlRel (v out : Value) (p : List Instr) (w : World) (i : Value) (wr : World) : Prop :=
  ∃ j : Nat, j ≤ p.length ∧ i = .int .i64 j ∧ St (fun _ => False) w wr [Own 123 Instr.cells 5 out (p.take j), Sl true Instr.cells 5 v p]
/-- What Plain leaves. -/
def PlainPost (p : List Instr) (w : World) (e : Ending) (w' : World) : Prop :=
  ∃ ad c, e = .returned (.slice ad p.length c) ∧ St (fun _ => False) w w' [Own 123 Instr.cells 5 (.slice ad p.length c) p]
set_option maxRecDepth 100000 in
set_option maxHeartbeats 4000000 in
theorem lplain_calls (v : Value) (p : List Instr) (w : World) (F : Nat → Prop) (h : (Sl true Instr.cells 5 v p).at_ w F) (hn : p.length * 40 ≤ 140737488351232) : Calls Tryd.prog 41 #[v] w (PlainPost p w) := by
  have S : St (fun _ => False) w w [Sl true Instr.cells 5 v p] := (St.init _ w).share rfl rfl h
  obtain ⟨ad, cp, rfl, _⟩ := (S.sl 0 rfl).elim fun _ h => h.form
  clear h
  replace S := S.nil 123 Instr.cells 5
  go_enter Tryd.func41, Tryd.ntmps41
  go_wp2_with first
    | ((with_reducible refine tot_done ?ht ?_); (case ht => kernel_rfl))
    | ((with_reducible apply wps_text S); (case hm => kernel_rfl); (case hB => decide +kernel); clear S; intro wz S)
    | ((with_reducible apply wps_load S 0); (case hx => rfl); (case hi => rfl); (case hT => decide +kernel); (case hu => rfl))
  go_loopw [3, 4] (fun out i wr => PlRel (.slice ad p.length cp) out p w i wr) (fun _ i _ => p.length - (intOf i).toNat)
  case atStart => exact ⟨0, Nat.zero_le _, rfl, S⟩
  case round =>
    clear S
    obtain ⟨j, hj, rfl, S⟩ := hrel
    obtain ⟨F0, hF0⟩ := S.get (i := 0) rfl
    obtain ⟨ad0, c0, rfl⟩ := hF0.1.form
    clear hF0
    by_cases hlt : j < p.length
    · obtain ⟨x, hx⟩ : ∃ x, p[j]? = some x := ⟨_, List.getElem?_eq_getElem hlt⟩
      obtain ⟨R, o, rfl⟩ : ∃ R o, ad = some ⟨R, o, none⟩ := (S.sl 1 rfl).elim fun F h => h.head (by omega)
      have hlt2 : (j : Int) < p.length := by omega
      have HT : Hid (p.take (j + 1) = p.take j ++ [x]) := by show _ = _; rw [List.take_add_one, hx]; rfl
      have htl : ((p.take j).length + 1) * 40 ≤ 140737488355328 := by rw [List.length_take, Nat.min_eq_left hj]; omega
      have hlj : (p.take j).length = j := by simp; omega
      rw [hlj] at S
      rw [hlj]
      have Hx := Lib.hid hx
      have Hlj := Lib.hid hlj
      clear hx hlj
      go_wp2_with first
        | ((with_reducible refine tot_done ?ht ?_); (case ht => kernel_rfl))
        | ((with_reducible apply wps_load S 0); (case hx => rfl); (case hi => rfl); (case hT => decide +kernel); (case hu => rfl))
      replace S := S.pick [1, 0] rfl
      simp only [pick, nth] at S
      (refine wp_region_wt (soft := [0, 1, 2, 3, 4, 5, 6, 7, 8, 9, 10, 11, 12, 13, 14, 15, 16, 17, 18, 19, 20, 21, 22, 23, 24, 25, 26]) (L := [_]) (T := [_]) S ?hm ?hB ?_); (case hm => kernel_rfl); (case hB => decide +kernel); clear S
      iterate 27
        (with_reducible apply softs_cons)
        (case hw =>
          (with_reducible apply soft_of); (case hi => rfl)
          intro T wz S
          simp only [List.cons_append, List.nil_append] at S
          go_wp2_with first
            | ((with_reducible apply wps_load_el S 0 (hj := Hx.out) (q := 0) (u := .int .i64 x.op)); (case hx => rfl); (case hi => rfl); (case hn => omega); (case hT => decide +kernel); (case hu => rfl))
            | ((with_reducible apply wps_load_el S 0 (hj := Hx.out) (q := 1) (u := .int .i64 x.a)); (case hx => rfl); (case hi => rfl); (case hn => omega); (case hT => decide +kernel); (case hu => rfl))
            | ((with_reducible apply wps_load_el S 0 (hj := Hx.out) (q := 2) (u := .int .i64 x.b)); (case hx => rfl); (case hi => rfl); (case hn => omega); (case hT => decide +kernel); (case hu => rfl))
            | ((with_reducible apply wps_load_el S 0 (hj := Hx.out) (q := 3) (u := .int .i64 x.c)); (case hx => rfl); (case hi => rfl); (case hn => omega); (case hT => decide +kernel); (case hu => rfl))
            | ((with_reducible apply wps_load_el S 0 (hj := Hx.out) (q := 4) (u := .int .i64 x.d)); (case hx => rfl); (case hi => rfl); (case hn => omega); (case hT => decide +kernel); (case hu => rfl))
            | ((with_reducible refine tot_done ?ht ?_); (case ht => kernel_rfl))
            | ((with_reducible apply wps_load S 0); (case hx => rfl); (case hi => rfl); (case hT => decide +kernel); (case hu => rfl))
          exact ⟨rfl, S⟩)
        (case hs => exact ⟨_, rfl, by kernel_rfl⟩)
      refine softs_nil ?_
      (with_reducible apply W_hard1 (i := 27)); (case hn => rfl); (case hr => decide +kernel)
      intro wz S
      (with_reducible apply hard_of); (case hi => rfl)
      simp only [List.cons_append, List.nil_append] at S
      go_wp2_with first
        | ((with_reducible refine tot_done ?ht ?_); (case ht => kernel_rfl))
        | ((with_reducible apply wps_build1a (T := 86) (E := 123) S); (case hx => rfl); (case hr => intro w; kernel_rfl); clear S; intro bz wz S)
      refine ⟨_, S.pick [1, 2, 0] rfl, ?_⟩
      (with_reducible apply W_hard1 (i := 28)); (case hn => rfl); (case hr => decide +kernel)
      clear S
      intro wz S
      (with_reducible apply hard_of); (case hi => rfl)
      simp only [List.cons_append, List.nil_append] at S
      try simp only [pick, nth] at S
      (with_reducible apply wps_append1B elem_RIn incells inone (by decide) S 1 (j := 2) (e := x))
      (case hi => rfl)
      (case hj => rfl)
      (case he => rfl)
      (case hl => first | omega | (simp; omega))
      (case hx => rfl)
      (case hy => rfl)
      clear S
      intro az nz cz wz hnz S
      simp only [List.set_cons_succ, List.set_cons_zero] at S
      go_wp2_with first
        | ((with_reducible refine tot_done ?ht ?_); (case ht => kernel_rfl))
      refine ⟨_, S, ?_⟩
      (with_reducible apply W_hard1 (i := 29)); (case hn => rfl); (case hr => decide +kernel)
      clear S
      intro wz S
      (with_reducible apply hard_of); (case hi => rfl)
      go_wp2_with first
        | ((with_reducible refine tot_done ?ht ?_); (case ht => kernel_rfl))
      refine ⟨_, S, ?_⟩
      (with_reducible apply W_done); (case hn => rfl); (case hr => decide +kernel)
      clear S
      intro wz S
      simp only [List.cons_append, List.nil_append] at S
      try simp only [pick, nth] at S
      go_wp2_with first
        | ((with_reducible refine tot_done ?ht ?_); (case ht => kernel_rfl))
        | ((with_reducible apply wps_text S); (case hm => kernel_rfl); (case hB => decide +kernel); clear S; intro wz S)
        | ((with_reducible apply wps_load S 0); (case hx => rfl); (case hi => rfl); (case hT => decide +kernel); (case hu => rfl))
      go_roundw
      case rel => exact ⟨j + 1, by omega, by go_num, by rw [HT.out]; exact S.pick [1, 0] rfl⟩
      case measure => first | (simp [intOf]; done) | (simp [intOf]; omega)
    · obtain rfl : j = p.length := by omega
      rw [List.take_length] at S
      rw [List.take_length]
      go_wp2_with first
        | ((with_reducible refine tot_done ?ht ?_); (case ht => kernel_rfl))
        | ((with_reducible apply wps_text S); (case hm => kernel_rfl); (case hB => decide +kernel); clear S; intro wz S)
        | ((with_reducible apply wps_load S 0); (case hx => rfl); (case hi => rfl); (case hT => decide +kernel); (case hu => rfl))
      go_ret
      exact ⟨_, _, rfl, S.pick [0] rfl⟩
end Go.Proofs.YtfiiaechippboaaDoor
/- Slices that are owned and written, of which only their room is known; and several owned slices at once. Over any program. -/
namespace Go.Proofs.YtfiiaechippboaaDoor.Mem
open Go Go.RowKit Reg

/-- Each of these has its room in blocks of its own. -/
def RoomAt (k : Nat) (w : World) (F : Nat → Prop) (vs : List Value) : Prop :=
  ∀ (i : Nat) v, vs[i]? = some v → ∃ ad n c, v = .slice ad n c ∧ (0 < n → ∃ R cs t, ad = some ⟨R, 0, none⟩ ∧ F R ∧ w.heap[R]? = some (.cells cs t (0, 0)) ∧ n * k ≤ cs.size)
def Room (k : Nat) (vs : List Value) : Asn where
  sh := false
  at_ w F := RoomAt k w F vs ∧ ∀ b, F b → b < w.heap.size
  loc h hb := ⟨fun i v hi => by
    obtain ⟨ad, n, c, e, h2⟩ := h.1 i v hi
    refine ⟨ad, n, c, e, fun h0 => ?_⟩
    obtain ⟨R, cs, t, e1, h3, h4, h5⟩ := h2 h0
    exact ⟨R, cs, t, e1, h3, (hb R h3).trans h4, h5⟩, lt_loc h.2 hb⟩
  lt h := h.2
/-- Several slices that are owned. -/
def Ows {α : Type} (E : TypeId) (enc : α → List Value) (k : Nat) (vs : List Value) (xss : List (List α)) : Asn where
  sh := false
  at_ w F := (vs.length = xss.length ∧ ∀ (i : Nat) v xs, vs[i]? = some v → xss[i]? = some xs → ∃ Fi, (Own E enc k v xs).at_ w Fi ∧ ∀ b, Fi b → F b) ∧ ∀ b, F b → b < w.heap.size
  loc h hb := ⟨⟨h.1.1, fun i v xs hv hx => by
    obtain ⟨Fi, h1, h2⟩ := h.1.2 i v xs hv hx
    exact ⟨Fi, (Own _ _ _ v xs).loc h1 (fun b hb' => hb b (h2 b hb')), h2⟩⟩, lt_loc h.2 hb⟩
  lt h := h.2
section
variable {α : Type} {E : TypeId} {enc : α → List Value} {k : Nat} {G : Nat → Prop} {w0 w : World} {L : List Asn}
theorem St.owsNil (S : St G w0 w L) (E : TypeId) (enc : α → List Value) (k : Nat) : St G w0 w (Ows E enc k [] ([] : List (List α)) :: L) :=
  S.grow (F := fun _ => False) (Keep.refl _ _) ⟨⟨rfl, fun i v xs h => by simp at h⟩, fun _ h => h.elim⟩ (fun _ h => h.elim)
theorem St.owsSnoc {vs : List Value} {xss : List (List α)} {v : Value} {xs : List α} (S : St G w0 w (Own E enc k v xs :: Ows E enc k vs xss :: L)) : St G w0 w (Ows E enc k (vs ++ [v]) (xss ++ [xs]) :: L) :=
  S.merge _ rfl rfl rfl fun F F' h h' => by
    refine ⟨⟨by simp [h'.1.1], fun j u ys hu hy => ?_⟩, fun b hb => hb.elim ((Own E enc k v xs).lt h b) (h'.2 b)⟩
    by_cases hj : j < vs.length
    · rw [List.getElem?_append_left hj] at hu
      rw [List.getElem?_append_left (by rw [← h'.1.1]; exact hj)] at hy
      obtain ⟨Fi, h1, h2⟩ := h'.1.2 j u ys hu hy
      exact ⟨Fi, h1, fun b hb => .inr (h2 b hb)⟩
    · have hjl := (List.getElem?_eq_some_iff.1 hu).1
      simp at hjl
      obtain rfl : j = vs.length := by omega
      rw [List.getElem?_append_right (Nat.le_refl _)] at hu
      rw [List.getElem?_append_right (by rw [h'.1.1]; exact Nat.le_refl _)] at hy
      simp [h'.1.1] at hu hy
      subst hu; subst hy
      exact ⟨F, h, fun b hb => .inl hb⟩
theorem ows_sls (hk : ∀ x, (enc x).length = k) {vs : List Value} {xss : List (List α)} {F : Nat → Prop} (h : (Ows E enc k vs xss).at_ w F) : (Sls true enc k vs xss).at_ w F :=
  ⟨⟨h.1.1, fun i v xs hv hx => let ⟨_, h1, h2⟩ := h.1.2 i v xs hv hx; (own_sl (sh := true) hk h1).1.mono h2⟩, h.2⟩
variable {P : Program} {ops : Array Oper} {rest : List Oper} {a : Act} {Q : Exit → Act → World → Prop} {d : Option Tmp} {tt : TypeId} {p : String} {af : Array Edge} {gd : Option (Nat × Bool)} {x y : Operand}
end
end Go.Proofs.YtfiiaechippboaaDoor.Mem
/- Heads of slices as data; what 'few' gives. -/
namespace Go.Proofs.YtfiiaechippboaaDoor
open Go Go.RowKit Reg Mem

theorem few_midK {c : Cfg} (h : fewB c = true) : Mid c := by
  have := few_iff.1 h; exact ⟨by omega, by omega, by omega⟩
theorem few_midK2 {c : Cfg} (h : fewB c = true) : ∀ p ∈ c.programs, p.length ≤ 65536 := fun p hp => by
  have := (few_iff.1 h).1 p hp; omega
/-- A slice's head. -/
structure Hd where
  ad : Option Addr
  n : Nat
  c : Nat
def Hd.val (h : Hd) : Value := .slice h.ad h.n h.c
def hcell (h : Hd) : List Value := [.slice h.ad h.n h.c]
theorem hcells : ∀ h : Hd, (hcell h).length = 1 := fun _ => rfl
theorem hone : ∀ h : Hd, ∀ u ∈ hcell h, u.oneCell' = true := fun _ => by simp [hcell, Value.oneCell']
theorem slat_map {α β : Type} {enc : α → List Value} {enc' : β → List Value} {k : Nat} {w : World} {F : Nat → Prop} {v : Value} {xs : List α} (f : α → β) (hf : ∀ x, enc' (f x) = enc x) (h : SlAt enc k w F v xs) : SlAt enc' k w F v (xs.map f) := by
  obtain ⟨a, c, e, h1, h2, h3⟩ := h
  refine ⟨a, c, by simpa using e, by simpa using h1, h2, fun i y hi => ?_⟩
  rw [List.getElem?_map] at hi
  cases hx : xs[i]? with
  | none => rw [hx] at hi; cases hi
  | some x =>
    rw [hx] at hi; simp at hi; subst hi
    obtain ⟨R, o, e1, hR, hc⟩ := h3 i x hx
    exact ⟨R, o, e1, hR, fun j u hj => hc j u (by rw [← hf]; exact hj)⟩
end Go.Proofs.YtfiiaechippboaaDoor

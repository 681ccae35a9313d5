import Derived.Test.YtemgonomenjjaaaGreatDoorU07
import Derived.Test.YtemgonomenjjaaaGreatDoorU06
import Derived.Test.YtemgonomenjjaaaGreatDoorU04
import Derived.Test.YtemgonomenjjaaaGreatDoorU01
import Derived.Sort.Statements
/- The walks of vm.New and of a machine's Step. -/
namespace Go.Proofs.YtemgonomenjjaaaGreatDoor
open Go Go.RowKit Reg Mem

def StepPost (F : Nat → Prop) (R : Nat) (e : Event) (vp : Value) (fan : Int) (o : Option Mach) (m : Mach) (w : World) (r : Ending) (w' : World) : Prop :=
  ∃ vs', r = .returned (.bool o.isSome) ∧ St F w w' [Blk false R (machCells e vp (o.getD m) fan vs') 176, Own 132 Emit.cells 4 vs' (o.getD m).sent]
set_option maxRecDepth 100000 in
set_option maxHeartbeats 8000000 in
theorem step_calls (F : Nat → Prop) (w : World) (R : Nat) (e : Event) (vp vs : Value) (fan : Int) (cs : List Int) (k : Nat) (sent : List Emit) (p : List Instr)
    (S : St F w w [Blk false R (machCells e vp ⟨cs, k, sent⟩ fan vs) 176, Own 132 Emit.cells 4 vs sent, Sl true Instr.cells 5 vp p, Tab])
    (h8 : cs.length = 8) (hs : sent.length ≤ 65536) (hp : p.length ≤ 64) :
    Calls Tryz.prog 97 #[.pointer (some ⟨R, 0, none⟩)] w (StepPost F R e vp fan (stepE p e fan ⟨cs, k, sent⟩) ⟨cs, k, sent⟩ w) := by
  obtain ⟨ad, cap, rfl, _⟩ := (S.sl 2 rfl).elim fun _ h => h.form
  have H8 := Lib.hid (show (Mach.mk cs k sent).cs.length = 8 from h8)
  clear h8
  by_cases hk : k < p.length
  case neg =>
    have hk2 : (p.length : Int) ≤ k := by omega
    rw [show stepE p e fan ⟨cs, k, sent⟩ = none by unfold stepE; rw [if_pos (.inr hk2)]]
    go_enter Tryz.func97, Tryz.ntmps97
    go_wp2_with first | ((with_reducible apply wps_load S 0 (hu := mach_at (m:=⟨cs,(k:Int),sent⟩) H8.out)); (case hx | hi => rfl); (case hT => decide +kernel)) | ((with_reducible apply wps_load S 0 (hu := mach_prog)); (case hx | hi => rfl); (case hT => decide +kernel)) | ((with_reducible refine tot_done ?ht ?_); (case ht => kernel_rfl)) | ((with_reducible apply wps_text S); (case hm => kernel_rfl); (case hB => decide +kernel); clear S; intro wz S)
    go_ret
    exact ⟨vs, by simp, S.pick [0, 1] rfl⟩
  case pos =>
    have hk2 : (k : Int) < p.length := by omega
    obtain ⟨x, hx⟩ : ∃ x, p[k]? = some x := ⟨_, List.getElem?_eq_getElem hk⟩
    obtain ⟨RP, oP, rfl⟩ : ∃ R o, ad = some ⟨R, o, none⟩ := (S.sl 2 rfl).elim fun F h => h.head (by omega)
    have hst : stepE p e fan ⟨cs, k, sent⟩ = if x.op = 15 ∨ mayE x p.length ≠ 0 then none else some (doE e fan ⟨cs, k + 1, sent⟩ x) := by
      unfold stepE
      rw [if_neg (by simp; omega)]
      simp only [Int.toNat_natCast, hx]
    by_cases h15 : x.op = 15
    · rw [if_pos (.inl h15)] at hst
      rw [hst]
      clear hst
      obtain ⟨op, a, b, c, d⟩ := x
      simp only at h15
      subst h15
      have Hx := Lib.hid hx
      clear hx
      go_enter Tryz.func97, Tryz.ntmps97
      go_wp2_with first | go_skip | ((with_reducible apply wps_alloca (E := 115) S); (case hz => exact Tryz.zeroValue115); clear S; intro bx wz S) | ((with_reducible apply wps_loada_el S 2 (hj := Hx.out) (q := 0) (vs := [.int .i64 (⟨15,a,b,c,d⟩:Instr).op, .int .i64 (⟨15,a,b,c,d⟩:Instr).a, .int .i64 (⟨15,a,b,c,d⟩:Instr).b, .int .i64 (⟨15,a,b,c,d⟩:Instr).c, .int .i64 (⟨15,a,b,c,d⟩:Instr).d]) (m := 5)); (case hx | hi => rfl); (case hn => omega); (case hm | hv => rfl); (case hT => decide +kernel)) | ((with_reducible apply wps_storea (T := 115) S 0 (vs := [.int .i64 15, .int .i64 a, .int .i64 b, .int .i64 c, .int .i64 d]) (m := 5)); (case hx | hy | hi | hm | h1 => rfl); (case hn => exact Nat.le_of_ble_eq_true rfl); (case hT => decide +kernel); clear S; intro wz S; simp only [List.set_cons_zero, List.set_cons_succ, setAll, List.setIfInBounds_toArray] at S) | ((with_reducible apply wps_load S 0 (hu := mach_at (m:=⟨cs,(k:Int),sent⟩) H8.out)); (case hx | hi => rfl); (case hT => decide +kernel)) | ((with_reducible apply wps_load S 0 (hu := mach_prog)); (case hx | hi => rfl); (case hT => decide +kernel)) | ((with_reducible refine tot_done ?ht ?_); (case ht => kernel_rfl)) | ((with_reducible apply wps_text S); (case hm => kernel_rfl); (case hB => decide +kernel); clear S; intro wz S) | ((with_reducible apply wps_load S 0); (case hx | hi | hu => rfl); (case hT => decide +kernel))
      go_ret
      exact ⟨vs, by simp, S.pick [1, 2] rfl⟩
    have HM := Lib.hid fun w F2 h => may_calls x p.length w F2 h
    have h15b : (x.op == 15) = false := by simpa using h15
    by_cases hm : mayE x p.length = 0
    case neg =>
      rw [if_pos (.inr hm)] at hst
      rw [hst]
      clear hst
      obtain ⟨er, her⟩ : ∃ er, mayE x p.length = er := ⟨_, rfl⟩
      rw [her] at HM hm
      have hm2 : (er != 0) = true := by simpa using hm
      clear her
      have Hx := Lib.hid hx
      clear hx
      go_enter Tryz.func97, Tryz.ntmps97
      go_wp2_with first | ((with_reducible apply wps_alloca (E := 115) S); (case hz => exact Tryz.zeroValue115); clear S; intro bx wz S) | ((with_reducible apply wps_loada_el S 2 (hj := Hx.out) (q := 0) (vs := [.int .i64 x.op, .int .i64 x.a, .int .i64 x.b, .int .i64 x.c, .int .i64 x.d]) (m := 5)); (case hx | hi => rfl); (case hn => omega); (case hm | hv => rfl); (case hT => decide +kernel)) | ((with_reducible apply wps_storea (T := 115) S 0 (vs := [.int .i64 x.op, .int .i64 x.a, .int .i64 x.b, .int .i64 x.c, .int .i64 x.d]) (m := 5)); (case hx | hy | hi | hm | h1 => rfl); (case hn => exact Nat.le_of_ble_eq_true rfl); (case hT => decide +kernel); clear S; intro wz S; simp only [List.set_cons_zero, List.set_cons_succ, setAll, List.setIfInBounds_toArray] at S) | ((with_reducible apply wps_load S 0 (hu := mach_at (m:=⟨cs,(k:Int),sent⟩) H8.out)); (case hx | hi => rfl); (case hT => decide +kernel)) | ((with_reducible apply wps_load S 0 (hu := mach_prog)); (case hx | hi => rfl); (case hT => decide +kernel)) | ((with_reducible apply wps_load S 1 (hu := mach_prog)); (case hx | hi => rfl); (case hT => decide +kernel)) | (go_at_call 117; refine Calls.mono (HM.out _ _ (S.get (i := 4) rfl).choose_spec) ?_; rintro e wz ⟨rfl, hE⟩; replace S := S.ext (Keep.of_below hE); clear hE) | ((with_reducible refine tot_done ?ht ?_); (case ht => kernel_rfl)) | ((with_reducible apply wps_text S); (case hm => kernel_rfl); (case hB => decide +kernel); clear S; intro wz S) | ((with_reducible apply wps_load S 0); (case hx | hi | hu => rfl); (case hT => decide +kernel)) | ((with_reducible apply wps_loada (T := 115) (k := 5) S 0); (case hx | hi => rfl); (case hk => exact Nat.le_of_ble_eq_true rfl); (case hT => decide +kernel))
      go_ret
      exact ⟨vs, by simp, S.pick [1, 2] rfl⟩
    case pos =>
      rw [if_neg (fun h => h.elim h15 (fun h => h hm))] at hst
      rw [hst]
      clear hst
      have HX := Lib.hid hm
      rw [hm] at HM
      clear hm
      have Hx := Lib.hid hx
      clear hx
      go_enter Tryz.func97, Tryz.ntmps97
      go_wp2_with first | ((with_reducible apply wps_alloca (E := 115) S); (case hz => exact Tryz.zeroValue115); clear S; intro bx wz S) | ((with_reducible apply wps_loada_el S 2 (hj := Hx.out) (q := 0) (vs := [.int .i64 x.op, .int .i64 x.a, .int .i64 x.b, .int .i64 x.c, .int .i64 x.d]) (m := 5)); (case hx | hi => rfl); (case hn => omega); (case hm | hv => rfl); (case hT => decide +kernel)) | ((with_reducible apply wps_storea (T := 115) S 0 (vs := [.int .i64 x.op, .int .i64 x.a, .int .i64 x.b, .int .i64 x.c, .int .i64 x.d]) (m := 5)); (case hx | hy | hi | hm | h1 => rfl); (case hn => exact Nat.le_of_ble_eq_true rfl); (case hT => decide +kernel); clear S; intro wz S; simp only [List.set_cons_zero, List.set_cons_succ, setAll, List.setIfInBounds_toArray] at S) | ((with_reducible apply wps_load S 0 (hu := mach_at (m:=⟨cs,(k:Int),sent⟩) H8.out)); (case hx | hi => rfl); (case hT => decide +kernel)) | ((with_reducible apply wps_load S 0 (hu := mach_prog)); (case hx | hi => rfl); (case hT => decide +kernel)) | ((with_reducible apply wps_load S 1 (hu := mach_at (m:=⟨cs,(k:Int),sent⟩) H8.out)); (case hx | hi => rfl); (case hT => decide +kernel)) | ((with_reducible apply wps_load S 1 (hu := mach_prog)); (case hx | hi => rfl); (case hT => decide +kernel)) | (go_at_call 117; refine Calls.mono (HM.out _ _ (S.get (i := 4) rfl).choose_spec) ?_; rintro e wz ⟨rfl, hE⟩; replace S := S.ext (Keep.of_below hE); clear hE) | ((with_reducible apply wps_store S 1 (n := 16) (u := .int .i64 ((k:Int)+1))); (case hx | hy | hi | h1 => rfl); (case hT => decide +kernel); (case hn => first | omega | (rw [mach_size H8.out]; omega) | (rw [mach_size H8.out]; decide) | (rw [rm_size H8.out]; omega) | (rw [rm_size H8.out]; decide) | (rw [rm_size (H8b _ _).out]; decide)); clear S; intro wz S; simp only [List.set_cons_succ, List.set_cons_zero] at S; rw [mach_setat (m:=⟨cs,(k:Int),sent⟩) H8.out] at S) | (go_at_call 118; obtain ⟨Fz, SF, hBk⟩ := S.lend [1,2] [] [0,3,4] rfl rfl rfl; simp only [List.append_nil, pick, nth] at SF; refine Calls.mono (do_calls Fz _ R e _ vs fan ⟨cs, (k:Int)+1, sent⟩ x p.length SF H8.out HX.out hs) ?_; rintro e wz ⟨vs', rfl, T⟩; replace S := hBk _ _ T rfl; clear hBk SF T; simp only [List.cons_append, List.nil_append, pick, nth] at S) | ((with_reducible refine tot_done ?ht ?_); (case ht => kernel_rfl)) | ((with_reducible apply wps_text S); (case hm => kernel_rfl); (case hB => decide +kernel); clear S; intro wz S) | ((with_reducible apply wps_load S 0); (case hx | hi | hu => rfl); (case hT => decide +kernel)) | ((with_reducible apply wps_loada (T := 115) (k := 5) S 0); (case hx | hi => rfl); (case hk => exact Nat.le_of_ble_eq_true rfl); (case hT => decide +kernel))
      go_ret
      exact ⟨_, by simp, S.pick [0, 1] rfl⟩
end Go.Proofs.YtemgonomenjjaaaGreatDoor
/- The walk of model.New. -/
namespace Go.Proofs.YtemgonomenjjaaaGreatDoor
open Go Go.RowKit Reg Mem

def nilS : Value := .slice none 0 0
def NewRel (bx R0 : Nat) (cs : Array Value) (aP : Option Addr) (cP : Nat) (vL vS : Value) (hs : List Value) (c : Cfg) (w : World) (i : Value) (wr : World) : Prop :=
  ∃ (j : Nat) (gs : List Value), j ≤ c.programs.length ∧ i = .int .i64 j ∧ gs.length = j ∧
    St (fun _ => False) w wr [Blk false bx cs 26, Own 105 vcell 1 (.slice (some ⟨R0, 0, none⟩) c.programs.length c.programs.length) (gs ++ List.replicate (c.programs.length - j) nilS), Sls false Instr.cells 5 gs (c.programs.take j), Sls true Instr.cells 5 hs c.programs, Sl true vcell 1 (.slice aP c.programs.length cP) hs, Sl true Place.cells 5 vL c.lps, Sl true Start.cells 4 vS c.starts]
/-- What New answers. -/
def NewPost (c : Cfg) (w : World) (e : Ending) (w' : World) : Prop :=
  (cfgE c ≠ 0 ∧ e = .returned (.tuple #[.pointer none, .int .i64 (cfgE c)]) ∧ Below w.heap.size w w') ∨
  (cfgE c = 0 ∧ ∃ R vs hs, e = .returned (.tuple #[.pointer (some ⟨R, 0, none⟩), .int .i64 0]) ∧ St (fun _ => False) w w' [ModA false 84 R vs hs c])
set_option maxRecDepth 100000 in
set_option maxHeartbeats 8000000 in
theorem new_calls (vs hs : List Value) (c : Cfg) (w : World) (F F2 : Nat → Prop) (h : (CfgA true vs hs c).at_ w F) (ht : Tab.at_ w F2) (hm : Mid c) (hm2 : ∀ p ∈ c.programs, p.length ≤ 65536) :
    Calls Tryz.prog 25 #[.agg vs.toArray] w (NewPost c w) := by
  have S : St (fun _ => False) w w [CfgA true vs hs c, Tab] := ((St.init _ w).share rfl rfl ht).share rfl rfl h
  obtain ⟨aP, cP, aL, cL, aS, cS, rfl, hlen, S⟩ := S.cfg 0 rfl
  clear h ht
  have hp1 := hm.p
  have hp2 := hm.l
  have hp3 := hm.s
  have HC : Hid (∀ w F F2, (CfgA true [.slice aP c.programs.length cP, .slice aL c.lps.length cL, .slice aS c.starts.length cS, .int .i64 c.fin, .int .i64 c.fuel, .int .i64 c.fan] hs c).at_ w F → Tab.at_ w F2 →
      Calls Tryz.prog 45 #[.agg #[.slice aP c.programs.length cP, .slice aL c.lps.length cL, .slice aS c.starts.length cS, .int .i64 c.fin, .int .i64 c.fuel, .int .i64 c.fan]] w fun r w' => r = .returned (.int .i64 (cfgE c)) ∧ Below w.heap.size w w') :=
    fun w F F2 h ht => mcheck_calls _ hs c w F F2 h ht hm
  obtain ⟨e, he⟩ : ∃ e, cfgE c = e := ⟨_, rfl⟩
  unfold NewPost
  rw [he] at HC ⊢
  have He := Lib.hid he
  clear he
  by_cases h0 : e = 0
  case neg =>
    have h1 : (e != 0) = true := by simpa using h0
    have H0 := Lib.hid h0
    clear h0
    go_enter Tryz.func25, Tryz.ntmps25
    go_wp2_with first | ((with_reducible apply wps_boxa S); (case hx => rfl); clear S; intro bx wz S) | (go_at_call 45; refine Calls.mono (HC.out _ _ _ (S.get (i := 5) rfl).choose_spec (S.get (i := 6) rfl).choose_spec) ?_; rintro e wz ⟨rfl, hE⟩; replace S := S.ext (Keep.of_below hE); clear hE) | ((with_reducible apply wps_loada (T := 26) (k := 6) S 0); (case hx | hi => rfl); (case hk => exact Nat.le_of_ble_eq_true rfl); (case hT => decide +kernel))
    go_ret2
    exact .inl ⟨H0.out, by simp, S.below⟩
  case pos =>
    subst h0
    go_enter Tryz.func25, Tryz.ntmps25
    go_wp2_with first | ((with_reducible apply wps_boxa S); (case hx => rfl); clear S; intro bx wz S) | (go_at_call 45; refine Calls.mono (HC.out _ _ _ (S.get (i := 5) rfl).choose_spec (S.get (i := 6) rfl).choose_spec) ?_; rintro e wz ⟨rfl, hE⟩; replace S := S.ext (Keep.of_below hE); clear hE) | ((with_reducible apply wps_make vcells Tryz.underlying22 _ zero_Hdr S (n := c.programs.length)); (case hx | hy => rfl); (case hn => omega); clear S; intro bz wz S) | ((with_reducible apply wps_load S 0); (case hx | hi | hu => rfl); (case hT => decide +kernel)) | ((with_reducible apply wps_loada (T := 26) (k := 6) S 0); (case hx | hi => rfl); (case hk => exact Nat.le_of_ble_eq_true rfl); (case hT => decide +kernel)) | ((with_reducible apply wps_load S 1); (case hx | hi | hu => rfl); (case hT => decide +kernel))
    clear HC
    replace S := (S.slsNil Instr.cells 5).pick [2, 1, 0, 3, 4, 5, 6] rfl
    simp only [pick, nth] at S
    go_loopw [20] (fun i wr => NewRel bx bz #[.slice aP c.programs.length cP, .slice aL c.lps.length cL, .slice aS c.starts.length cS, .int .i64 c.fin, .int .i64 c.fuel, .int .i64 c.fan] aP cP (.slice aL c.lps.length cL) (.slice aS c.starts.length cS) hs c w i wr) (fun i _ => c.programs.length - (intOf i).toNat)
    case atStart => exact ⟨0, [], Nat.zero_le _, rfl, rfl, S⟩
    case round =>
      clear S
      obtain ⟨j, gs, hj, rfl, hgs, S⟩ := hrel
      by_cases hlt : j < c.programs.length
      · obtain ⟨p, hp⟩ : ∃ p, c.programs[j]? = some p := ⟨_, List.getElem?_eq_getElem hlt⟩
        obtain ⟨v, hv⟩ : ∃ v, hs[j]? = some v := ⟨_, List.getElem?_eq_getElem (by omega)⟩
        obtain ⟨R, o, rfl⟩ : ∃ R o, aP = some ⟨R, o, none⟩ := (S.sl 4 rfl).elim fun F h => h.head (by omega)
        have hlt2 : (j : Int) < c.programs.length := by omega
        have hpn := hm2 p (List.mem_of_getElem? hp)
        obtain ⟨av, cv, rfl, _⟩ := (S.sls 3 rfl).elim fun F h => (h.2 j v p hv hp).form
        have hr : List.replicate (c.programs.length - j) nilS = nilS :: List.replicate (c.programs.length - (j + 1)) nilS := by
          rw [← List.replicate_succ]; congr 1; omega
        rw [hr] at S
        have hj0 : (gs ++ nilS :: List.replicate (c.programs.length - (j + 1)) nilS)[j]? = some nilS := by rw [← hgs]; simp
        clear hr
        have Hp := Lib.hid hp
        have Hv := Lib.hid hv
        have Hj0 := Lib.hid hj0
        clear hp hv hj0
        go_wp2_with first | ((with_reducible apply wps_load_el S 4 (hj := Hv.out) (q := 0) (u := (.slice av p.length cv))); (case hx | hi => rfl); (case hn => omega); (case hu => rfl); (case hT => decide +kernel))
        refine Calls.mono (clone_In _ _ ((S.slsEl 3 rfl Hv.out Hp.out).get (i := 0) rfl).choose_spec (by omega)) ?_
        rintro e wz ⟨ad2, c2, rfl, _, T⟩
        replace S := S.join T rfl
        simp only [List.cons_append, List.nil_append] at S
        clear T
        go_wp2_with first | ((with_reducible apply wps_store_own vcells S 2 (hj := Hj0.out) (e' := (.slice ad2 p.length c2)) (q := 0)); (case hx => rfl); (case hn => omega); (case hi | hy | h1 | he => rfl); (case hq => decide); (case hT => decide +kernel); clear S; intro wz S; simp only [List.set_cons_succ, List.set_cons_zero] at S)
        rw [hset hgs.symm] at S
        replace S := ((S.freeze false 0 incells rfl).pick [0, 3, 1, 2, 4, 5, 6, 7] rfl)
        simp only [List.set_cons_zero, pick, nth] at S
        replace S := S.slsSnoc.pick [1, 2, 0, 3, 4, 5, 6] rfl
        simp only [pick, nth] at S
        go_roundw
        case rel =>
          refine ⟨j + 1, gs ++ [.slice ad2 p.length c2], by omega, by go_num, by simp [hgs], ?_⟩
          have ht : c.programs.take (j + 1) = c.programs.take j ++ [p] := by rw [List.take_add_one, Hp.out]; rfl
          rw [ht]
          exact S
        case measure => first | (simp [intOf]; done) | (simp [intOf]; omega)
      · obtain rfl : j = c.programs.length := by omega
        rw [Nat.sub_self, List.replicate_zero, List.append_nil, List.take_length] at S
        replace S := S.freeze false 1 vcells rfl
        simp only [List.set_cons_succ, List.set_cons_zero] at S
        obtain ⟨ps, ls, ss, fin, fuel, fan⟩ := c
        have hz := He.out
        simp only at S hp1 hp2 hp3 hlen
        go_wp2_with first | ((with_reducible apply wps_store S 0); (case hx | hy | hi | h1 => rfl); (case hn => exact Nat.le_of_ble_eq_true rfl); (case hT => decide +kernel); clear S; intro wz S; simp only [List.set_cons_zero, List.setIfInBounds_toArray] at S) | ((with_reducible apply wps_load S 0); (case hx | hi | hu => rfl); (case hT => decide +kernel))
        refine Calls.mono (clone_Pl _ _ (S.get (i := 5) rfl).choose_spec (by omega)) ?_
        rintro e wz ⟨ad2, c2, rfl, _, T⟩
        replace S := ((S.join T rfl).freeze false 0 plcells rfl).pick [1, 0, 2, 3, 7] rfl
        simp only [List.cons_append, List.nil_append, List.set_cons_zero, pick, nth] at S
        clear T
        go_wp2_with first | ((with_reducible apply wps_store S 0); (case hx | hy | hi | h1 => rfl); (case hn => exact Nat.le_of_ble_eq_true rfl); (case hT => decide +kernel); clear S; intro wz S; simp only [List.set_cons_succ, List.set_cons_zero, List.setIfInBounds_toArray] at S) | ((with_reducible apply wps_load S 0); (case hx | hi | hu => rfl); (case hT => decide +kernel))
        refine Calls.mono (clone_Sta _ _ (S.get (i := 4) rfl).choose_spec (by omega)) ?_
        rintro e wz ⟨ad3, c3, rfl, _, T⟩
        replace S := ((S.join T rfl).freeze false 0 stcells rfl).pick [1, 3, 2, 0, 4] rfl
        simp only [List.cons_append, List.nil_append, List.set_cons_zero, pick, nth] at S
        clear T
        go_wp2_with first | ((with_reducible apply wps_store S 0); (case hx | hy | hi | h1 => rfl); (case hn => exact Nat.le_of_ble_eq_true rfl); (case hT => decide +kernel); clear S; intro wz S; simp only [List.set_cons_succ, List.set_cons_zero, List.setIfInBounds_toArray] at S) | ((with_reducible apply wps_boxa S); (case hx => rfl); clear S; intro b2 wz S) | ((with_reducible apply wps_loada (T := 26) (k := 6) S 0); (case hx | hi => rfl); (case hk => exact Nat.le_of_ble_eq_true rfl); (case hT => decide +kernel))
        go_ret2
        replace S := S.pick [0, 2, 3, 4, 5] rfl
        simp only [pick, nth] at S
        refine .inr ⟨trivial, _, _, _, rfl, S.modNew⟩
end Go.Proofs.YtemgonomenjjaaaGreatDoor
/- The walk of vm.New. -/
namespace Go.Proofs.YtemgonomenjjaaaGreatDoor
open Go Go.RowKit Reg Mem

def VNewPost (s : State) (e : Event) (p : List Instr) (fan : Int) (w : World) (r : Ending) (w' : World) : Prop :=
  ∃ R vp, r = .returned (.pointer (some ⟨R, 0, none⟩)) ∧ St (fun _ => False) w w' [Blk false R (machCells e vp (startE s) fan nilS) 176, Own 132 Emit.cells 4 nilS [], Own 115 Instr.cells 5 vp p]
set_option maxRecDepth 100000 in
set_option maxHeartbeats 8000000 in
theorem vnew_calls (ad : Option Addr) (cap : Nat) (p : List Instr) (s : State) (e : Event) (fan : Int) (w : World) (F : Nat → Prop) (h : (Sl true Instr.cells 5 (.slice ad p.length cap) p).at_ w F) (hp : p.length ≤ 64) :
    Calls Tryz.prog 96 #[.slice ad p.length cap, .agg #[.int .i64 s.n0, .int .i64 s.n1, .int .i64 s.n2, .int .i64 s.n3], .agg #[.int .i64 e.key.at_, .int .i64 e.key.src, .int .i64 e.key.sent, .int .i64 e.key.no, .int .i64 e.dst, .int .i64 e.kind, .int .i64 e.data], .int .i64 fan] w (VNewPost s e p fan w) := by
  have S : St (fun _ => False) w w [Sl true Instr.cells 5 (.slice ad p.length cap) p] := (St.init _ w).share rfl rfl h
  clear h
  have hp2 : (p.length : Int) ≤ 64 := by omega
  go_enter Tryz.func96, Tryz.ntmps96
  go_wp2_with first | ((with_reducible apply wps_boxa (E := 52) S); (case hx => rfl); clear S; intro bs wz S) | ((with_reducible apply wps_boxa (E := 78) S); (case hx => rfl); clear S; intro be wz S)
  (refine wp_region_w (soft := [0, 1, 2, 3, 4, 7]) S ?hm ?hB ?_); (case hm => kernel_rfl); (case hB => decide +kernel); clear S
  iterate 6
    (with_reducible apply softs_cons)
    (case hw =>
      (with_reducible apply soft_of); (case hi => rfl)
      intro T wz S
      simp only [List.cons_append, List.nil_append] at S
      go_wp2_with first | ((with_reducible refine tot_done ?ht ?_); (case ht => kernel_rfl)) | ((with_reducible apply wps_loada (T := 78) (k := 7) S 0); (case hx | hi => rfl); (case hk => exact Nat.le_of_ble_eq_true rfl); (case hT => decide +kernel))
      exact ⟨rfl, S⟩)
    (case hs => exact ⟨_, rfl, by kernel_rfl⟩)
  refine softs_nil ?_
  repeat'
    (first
      | ((with_reducible apply W_hard1 (i := 5)); (case hn => rfl); (case hr => decide +kernel)) | ((with_reducible apply W_hard1 (i := 6)); (case hn => rfl); (case hr => decide +kernel)) | ((with_reducible apply W_hard1 (i := 8)); (case hn => rfl); (case hr => decide +kernel)) | ((with_reducible apply W_hard1 (i := 9)); (case hn => rfl); (case hr => decide +kernel)) | ((with_reducible apply W_hard1 (i := 10)); (case hn => rfl); (case hr => decide +kernel)) | ((with_reducible apply W_hard2 (i := 9) (i' := 10)); (case hn => rfl); (case hr => decide +kernel)))
    all_goals
      intro wz S
      (with_reducible apply hard_of); (case hi => rfl)
      simp only [List.cons_append, List.nil_append] at S
      try simp only [pick, nth] at S
      go_wp2_with first | ((with_reducible apply wps_slice (E := 115) S 2 (l := 0) (u := p.length)); (case hx | hi => rfl); (case hT => exact Tryz.underlying105); (case hE => intro w; kernel_rfl); (case hlo | hhi => first | exact .inr rfl | exact .inl ⟨rfl, rfl⟩); (case h1 | h2 => first | omega | (simp; omega)); clear S; intro az nz cz hnz S) | (go_at_call 46; simp only [List.drop_zero, List.take_length] at S; obtain rfl : nz = p.length := (by have := hnz.out; simp at this; omega); have hc0 := clone_In _ _ (S.get (i := 3) rfl).choose_spec (by omega); refine Calls.mono hc0 ?_; clear hc0; rintro e wz ⟨ad2, c2, rfl, _, T⟩; replace S := S.join T rfl; clear T; simp only [List.cons_append, List.nil_append] at S) | ((with_reducible apply wps_boxa (E := 176) S); (case hx => rfl); clear S; intro bm wz S) | ((with_reducible refine tot_done ?ht ?_); (case ht => kernel_rfl))
      first
        | refine ⟨_, S.pick [1, 2, 3, 4, 5, 6, 7, 8, 9, 0] rfl, ?_⟩
        | refine ⟨_, S.pick [1, 2, 3, 4, 5, 6, 7, 8, 0] rfl, ?_⟩
        | refine ⟨_, S.pick [1, 2, 3, 4, 5, 6, 7, 0] rfl, ?_⟩
        | refine ⟨_, S.pick [1, 2, 3, 4, 5, 6, 0] rfl, ?_⟩
        | refine ⟨_, S.pick [1, 2, 3, 4, 5, 0] rfl, ?_⟩
        | refine ⟨_, S.pick [1, 2, 3, 4, 0] rfl, ?_⟩
        | refine ⟨_, S.pick [1, 2, 3, 0] rfl, ?_⟩
        | refine ⟨_, S, ?_⟩
  (with_reducible apply W_done); (case hn => rfl); (case hr => decide +kernel)
  clear S
  intro wz S
  simp only [List.cons_append, List.nil_append] at S
  try simp only [pick, nth] at S
  go_wp2_with first | ((with_reducible refine tot_done ?ht ?_); (case ht => kernel_rfl)) | ((with_reducible apply wps_text S); (case hm => kernel_rfl); (case hB => decide +kernel); clear S; intro wz S) | ((with_reducible apply wps_copyb (elem := 3) S 5 rfl 1 rfl (us := [.int .i64 s.n0, .int .i64 s.n1, .int .i64 s.n2, .int .i64 s.n3])); (case hx | hy => rfl); (case hu | hsz => kernel_rfl); (case hn => rfl); (case hsrc => intro k v hk; rcases k with _ | _ | _ | _ | k <;> first | exact hk | simp at hk); (case hfit => exact Nat.le_of_ble_eq_true rfl); (case h1 => rfl); clear S; intro wz S)
  go_ret
  replace S := ((S.pick [5, 4] rfl).nil 132 Emit.cells 4).pick [1, 0, 2] rfl
  exact ⟨_, _, rfl, S⟩
end Go.Proofs.YtemgonomenjjaaaGreatDoor
/- Several results, of which some lie in cells. Over any program. -/
namespace Go.Proofs.YtemgonomenjjaaaGreatDoor.Mem
open Go Go.RowKit Reg

/-- What a result is. -/
def ResV (P : Program) (w : World) (tmps : Array Value) : ResultVar → Value → Prop
  | .tmp t, v => tmps.getD t undef = v
  | .cell q t, v => ∃ b, tmps.getD q undef = .pointer (some ⟨b, 0, none⟩) ∧ (loadVar t ⟨b, 0, none⟩).run P w = .ok v w
section
variable {P : Program} {fn : Func} {tmps : Array Value} {G : Nat → Prop} {w0 w : World} {L : List Asn} {r1 r2 r3 : ResultVar} {v1 v2 v3 : Value}
theorem results2 (h : fn.results = #[r1, r2]) (h1 : ResV P w tmps r1 v1) (h2 : ResV P w tmps r2 v2) : (results fn tmps).run P w = .ok (.tuple #[v1, v2]) w := by
  cases r1 <;> cases r2 <;> simp only [ResV, Array.getD_eq_getD_getElem?] at h1 h2
  · simp [results, h, h1, h2]
  · obtain ⟨b2, p2, l2⟩ := h2; simp [results, h, h1, p2, asAddr, l2]
  · obtain ⟨b1, p1, l1⟩ := h1; simp [results, h, h2, p1, asAddr, l1]
  · obtain ⟨b1, p1, l1⟩ := h1; obtain ⟨b2, p2, l2⟩ := h2; simp [results, h, p1, p2, asAddr, l1, l2]
theorem results3 (h : fn.results = #[r1, r2, r3]) (h1 : ResV P w tmps r1 v1) (h2 : ResV P w tmps r2 v2) (h3 : ResV P w tmps r3 v3) : (results fn tmps).run P w = .ok (.tuple #[v1, v2, v3]) w := by
  cases r1 <;> cases r2 <;> cases r3 <;> simp only [ResV, Array.getD_eq_getD_getElem?] at h1 h2 h3
  · simp [results, h, h1, h2, h3]
  · obtain ⟨b3, p3, l3⟩ := h3; simp [results, h, h1, h2, p3, asAddr, l3]
  · obtain ⟨b2, p2, l2⟩ := h2; simp [results, h, h1, h3, p2, asAddr, l2]
  · obtain ⟨b2, p2, l2⟩ := h2; obtain ⟨b3, p3, l3⟩ := h3; simp [results, h, h1, p2, p3, asAddr, l2, l3]
  · obtain ⟨b1, p1, l1⟩ := h1; simp [results, h, h2, h3, p1, asAddr, l1]
  · obtain ⟨b1, p1, l1⟩ := h1; obtain ⟨b3, p3, l3⟩ := h3; simp [results, h, h2, p1, p3, asAddr, l1, l3]
  · obtain ⟨b1, p1, l1⟩ := h1; obtain ⟨b2, p2, l2⟩ := h2; simp [results, h, h3, p1, p2, asAddr, l1, l2]
  · obtain ⟨b1, p1, l1⟩ := h1; obtain ⟨b2, p2, l2⟩ := h2; obtain ⟨b3, p3, l3⟩ := h3; simp [results, h, p1, p2, p3, asAddr, l1, l2, l3]
/-- A result that lies in a cell, whole. -/
theorem St.resA {sh : Bool} {b : Nat} {cs : Array Value} {t ty : TypeId} {q : Tmp} (S : St G w0 w L) (i : Nat) (hi : L[i]? = some (Blk sh b cs t)) (hp : tmps.getD q undef = .pointer (some ⟨b, 0, none⟩)) (hA : aggB P ty cs.size = true) : ResV P w tmps (.cell q ty) (.agg cs) := by
  refine ⟨b, hp, ?_⟩
  have hl := run_loadVar_agg (P := P) (t := ty) (b := b) (o := 0) (w := w) (vs := cs.toList) (by simpa using hA) (fun j u hj => by rw [Nat.zero_add, cell_of (S.blk i hi)]; simpa using hj)
  simpa using hl
theorem res_tmp {t : Tmp} {v : Value} (h : tmps.getD t undef = v) : ResV P w tmps (.tmp t) v := h
end
end Go.Proofs.YtemgonomenjjaaaGreatDoor.Mem
/- The order of keys, plain. -/
namespace Go.Proofs.YtemgonomenjjaaaGreatDoor
open Go.Sort

theorem Key.lt_iff (k l : Key) : k.lt l = true ↔ k.at_ < l.at_ ∨ (k.at_ = l.at_ ∧ (k.src < l.src ∨ (k.src = l.src ∧ (k.sent < l.sent ∨ (k.sent = l.sent ∧ k.no < l.no))))) := by
  unfold Key.lt
  split
  · simp; omega
  · split
    · simp; omega
    · split
      · simp; omega
      · simp; omega
theorem Key.lt_irrefl' (k : Key) : k.lt k = false := by
  rw [Bool.eq_false_iff, ne_eq, Key.lt_iff]; omega
theorem Key.lt_asymm' {a b : Key} (h : a.lt b = true) : b.lt a = false := by
  rw [Bool.eq_false_iff, ne_eq, Key.lt_iff]; rw [Key.lt_iff] at h; omega
theorem Key.eq_of {a b : Key} (h : a.lt b = false) (k : b.lt a = false) : a = b := by
  rw [Bool.eq_false_iff, ne_eq, Key.lt_iff] at h k
  obtain ⟨a1, a2, a3, a4⟩ := a; obtain ⟨b1, b2, b3, b4⟩ := b
  simp only [Key.mk.injEq] at *; omega
end Go.Proofs.YtemgonomenjjaaaGreatDoor
/- Stable sorting, plain: events with their places, sorted by keys, and by places where keys are the same. -/
namespace Go.Proofs.YtemgonomenjjaaaGreatDoor

abbrev TE := Event × Nat
def tless (x y : TE) : Bool := x.1.key.lt y.1.key
def slt (x y : TE) : Prop := tless x y = true ∨ (tless y x = false ∧ x.2 < y.2)
abbrev Srt (l : List TE) : Prop := l.Pairwise slt
theorem slt_trans {x y z : TE} (h : slt x y) (k : slt y z) : slt x z := by
  simp only [slt, tless, Bool.eq_false_iff, ne_eq, Key.lt_iff] at *; omega
theorem slt_irrefl (x : TE) : ¬ slt x x := by
  simp only [slt, tless, Bool.eq_false_iff, ne_eq, Key.lt_iff]; omega
theorem slt_asymm {x y : TE} (h : slt x y) : ¬ slt y x := fun k => slt_irrefl _ (slt_trans h k)
theorem slt_yes {x y : TE} (h : tless x y = true) : slt x y := .inl h
theorem slt_no {x y : TE} (h : tless y x = false) (k : x.2 < y.2) : slt x y := .inr ⟨h, k⟩
/-- x is behind y, and so it is behind all that are ahead of y. -/
theorem tless_down {x y z : TE} (h : slt x y) (k : tless y z = true) : tless x z = true := by
  simp only [slt, tless, Bool.eq_false_iff, ne_eq, Key.lt_iff] at *; omega
theorem tless_up {x y z : TE} (h : slt x y) (k : tless z x = true) : tless z y = true := by
  simp only [slt, tless, Bool.eq_false_iff, ne_eq, Key.lt_iff] at *; omega
/-- Sorted lists of the same things are the same. -/
theorem srt_uniq : ∀ {l m : List TE}, Srt l → Srt m → l.Perm m → l = m
  | [], m, _, _, hp => by simpa using hp
  | a :: l, [], _, _, hp => by simpa using hp.length_eq
  | a :: l, b :: m, hl, hm, hp => by
    have hl' := List.pairwise_cons.1 hl
    have hm' := List.pairwise_cons.1 hm
    have hab : a = b := by
      have h1 : a ∈ b :: m := hp.mem_iff.1 (by simp)
      have h2 : b ∈ a :: l := hp.mem_iff.2 (by simp)
      rcases List.mem_cons.1 h1 with h | h
      · exact h
      · rcases List.mem_cons.1 h2 with h3 | h3
        · exact h3.symm
        · exact absurd (hl'.1 b h3) (slt_asymm (hm'.1 a h))
    subst hab
    rw [srt_uniq hl'.2 hm'.2 (List.Perm.cons_inv hp)]

/-- The binary search: where f turns. -/
structure BS (f : Nat → Bool) (lo hi i j : Nat) : Prop where
  le1 : lo ≤ i
  le2 : i ≤ j
  le3 : j ≤ hi
  yes : ∀ k, lo ≤ k → k < i → f k = true
  no : ∀ k, j ≤ k → k < hi → f k = false
def Falls (f : Nat → Bool) (lo hi : Nat) : Prop := ∀ k k', lo ≤ k → k ≤ k' → k' < hi → f k' = true → f k = true
theorem BS.start {f : Nat → Bool} {lo hi : Nat} (h : lo ≤ hi) : BS f lo hi lo hi := ⟨Nat.le_refl _, h, Nat.le_refl _, fun k h1 h2 => by omega, fun k h1 h2 => by omega⟩
theorem BS.up {f : Nat → Bool} {lo hi i j : Nat} (h : BS f lo hi i j) (hf : Falls f lo hi) {k : Nat} (h1 : i ≤ k) (h2 : k < j) (hk : f k = true) : BS f lo hi (k + 1) j :=
  ⟨by have := h.le1; omega, by omega, h.le3, fun q hq hq' => hf q k hq (by omega) (by have := h.le3; omega) hk, h.no⟩
theorem BS.down {f : Nat → Bool} {lo hi i j : Nat} (h : BS f lo hi i j) (hf : Falls f lo hi) {k : Nat} (h1 : i ≤ k) (h2 : k < j) (hk : f k = false) : BS f lo hi i k :=
  ⟨h.le1, h1, by have := h.le3; omega, h.yes, fun q hq hq' => by
    cases hv : f q with
    | false => rfl
    | true => rw [hf k q (by have := h.le1; omega) hq hq' hv] at hk; cases hk⟩

/-- What a merge leaves. -/
def Merged (p l r q ys : List TE) : Prop := ∃ s : List TE, s.Perm (l ++ r) ∧ Srt s ∧ ys = p ++ s ++ q
theorem srt_get {l : List TE} (h : Srt l) {i j : Nat} {x y : TE} (hij : i < j) (hx : l[i]? = some x) (hy : l[j]? = some y) : slt x y := by
  obtain ⟨h1, rfl⟩ := List.getElem?_eq_some_iff.1 hx
  obtain ⟨h2, rfl⟩ := List.getElem?_eq_some_iff.1 hy
  exact List.pairwise_iff_getElem.1 h i j h1 h2 hij
theorem tless_run {l : List TE} (h : Srt l) {i j : Nat} {x y z : TE} (hij : i ≤ j) (hx : l[i]? = some x) (hy : l[j]? = some y) (hz : tless y z = true) : tless x z = true := by
  by_cases e : i = j
  · subst e; rw [hx] at hy; cases hy; exact hz
  · exact tless_down (srt_get h (by omega) hx hy) hz
theorem tless_run' {l : List TE} (h : Srt l) {i j : Nat} {x y z : TE} (hij : i ≤ j) (hx : l[i]? = some x) (hy : l[j]? = some y) (hz : tless z x = true) : tless z y = true := by
  by_cases e : i = j
  · subst e; rw [hx] at hy; cases hy; exact hz
  · exact tless_up (srt_get h (by omega) hx hy) hz
/-- What stands at a place of a list of four parts. -/
def att (xs : List TE) (k : Nat) : TE := xs[k]?.getD (⟨⟨0, 0, 0, 0⟩, 0, 0, 0⟩, 0)
theorem some_att {xs : List TE} {k : Nat} (h : k < xs.length) : xs[k]? = some (att xs k) := by simp [att, h]
section
variable {p l r q xs : List TE} {a m b : Nat}
/-- p, l, r, q in a row: where each lies. -/
structure Parts (p l r q xs : List TE) (a m b : Nat) : Prop where
  eq : xs = p ++ l ++ r ++ q
  ha : a = p.length
  hm : m = a + l.length
  hb : b = m + r.length
theorem Parts.left (h : Parts p l r q xs a m b) {k : Nat} (hk : k < l.length) : xs[a + k]? = l[k]? := by
  obtain ⟨rfl, rfl, rfl, rfl⟩ := h
  rw [List.append_assoc, List.append_assoc, List.getElem?_append_right (by omega), List.getElem?_append_left (by omega)]
  congr 1; omega
theorem Parts.right (h : Parts p l r q xs a m b) {k : Nat} (hk : k < r.length) : xs[m + k]? = r[k]? := by
  obtain ⟨rfl, rfl, rfl, rfl⟩ := h
  rw [List.append_assoc (p ++ l), List.getElem?_append_right (by simp), List.getElem?_append_left (by simp; omega)]
  congr 1; simp
theorem Parts.len (h : Parts p l r q xs a m b) : b + q.length = xs.length := by obtain ⟨rfl, rfl, rfl, rfl⟩ := h; simp; omega
theorem Parts.l_at (h : Parts p l r q xs a m b) {k : Nat} (h1 : a ≤ k) (h2 : k < m) : l[k - a]? = some (att xs k) := by
  have hm := h.hm
  rw [← h.left (by omega), show a + (k - a) = k by omega]
  exact some_att (by have := h.len; have := h.hb; omega)
theorem Parts.r_at (h : Parts p l r q xs a m b) {k : Nat} (h1 : m ≤ k) (h2 : k < b) : r[k - m]? = some (att xs k) := by
  have hb := h.hb
  rw [← h.right (by omega), show m + (k - m) = k by omega]
  exact some_att (by have := h.len; omega)
/-- Of the three searches: f falls. -/
theorem falls1 (h : Parts p l r q xs a m b) (hr : Srt r) (z : TE) : Falls (fun k => tless (att xs k) z) m b := fun k k' h1 h2 h3 hv =>
  tless_run hr (i := k - m) (j := k' - m) (by omega) (h.r_at h1 (by omega)) (h.r_at (by omega) h3) hv
theorem falls2 (h : Parts p l r q xs a m b) (hl : Srt l) (z : TE) : Falls (fun k => !tless z (att xs k)) a m := fun k k' h1 h2 h3 hv => by
  simp only [Bool.not_eq_true'] at *
  cases hk : tless z (att xs k) with
  | false => rfl
  | true => rw [tless_run' hl (i := k - a) (j := k' - a) (by omega) (h.l_at h1 (by omega)) (h.l_at (by omega) h3) hk] at hv; cases hv
theorem falls3 (h : Parts p l r q xs a m b) (hl : Srt l) (hr : Srt r) {s e n : Nat} (hs : a ≤ s) (he : e ≤ m) (h1 : ∀ c, s ≤ c → c < e → m ≤ n - c ∧ n - c < b ∧ c ≤ n) : Falls (fun k => !tless (att xs (n - k)) (att xs k)) s e := fun k k' g1 g2 g3 hv => by
  simp only [Bool.not_eq_true'] at *
  cases hk : tless (att xs (n - k)) (att xs k) with
  | false => rfl
  | true =>
    have c1 := h1 k g1 (by omega)
    have c2 := h1 k' (by omega) g3
    have e1 := tless_run' hl (i := k - a) (j := k' - a) (by omega) (h.l_at (by omega) (by omega)) (h.l_at (by omega) (by omega)) hk
    have e2 := tless_run hr (i := n - k' - m) (j := n - k - m) (by omega) (h.r_at c2.1 c2.2.1) (h.r_at c1.1 c1.2.1) e1
    rw [e2] at hv; cases hv
/-- The one ahead is brought behind those that are less. -/
theorem merge1 {x : TE} {i : Nat} (h : Parts p [x] r q xs a m b) (hr : Srt r) (ht : ∀ y ∈ r, x.2 < y.2) (hB : BS (fun k => tless (att xs k) x) m b i i) : Merged p [x] r q (p ++ r.take (i - m) ++ [x] ++ r.drop (i - m) ++ q) := by
  refine ⟨r.take (i - m) ++ [x] ++ r.drop (i - m), ?_, ?_, by simp⟩
  · have e : r.take (i - m) ++ r.drop (i - m) = r := List.take_append_drop _ _
    rw [List.append_assoc]
    refine (List.perm_append_comm_assoc _ _ _).trans ?_
    rw [e]
  · have y1 : ∀ z ∈ r.take (i - m), slt z x := fun z hz => by
      obtain ⟨k, hk, rfl⟩ := List.mem_take_iff_getElem.1 hz
      have := hB.yes (m + k) (by omega) (by omega)
      have hb := h.hb
      have g := h.r_at (k := m + k) (by omega) (by omega)
      rw [show m + k - m = k by omega, List.getElem?_eq_getElem (by omega)] at g
      rw [Option.some.inj g]; exact slt_yes this
    have y2 : ∀ z ∈ r.drop (i - m), slt x z := fun z hz => by
      obtain ⟨k, hk, rfl⟩ := List.mem_drop_iff_getElem.1 hz
      have hb := h.hb
      have := hB.no (i + k) (by omega) (by have := hB.le1; omega)
      have g := h.r_at (k := i + k) (by have := hB.le1; omega) (by have := hB.le1; omega)
      rw [show i + k - m = (i - m) + k by have := hB.le1; omega, List.getElem?_eq_getElem (by omega)] at g
      refine slt_no ?_ (ht _ (List.getElem_mem _))
      rw [Option.some.inj g]; exact this
    rw [List.append_assoc]
    refine List.pairwise_append.2 ⟨hr.sublist (List.take_sublist _ _), List.pairwise_cons.2 ⟨y2, hr.sublist (List.drop_sublist _ _)⟩, fun u hu v hv => ?_⟩
    rcases List.mem_cons.1 hv with rfl | hv
    · exact y1 u hu
    · exact slt_trans (y1 u hu) (y2 v hv)
/-- The one behind is brought ahead of those that are more. -/
theorem merge2 {y : TE} {i : Nat} (h : Parts p l [y] q xs a m b) (hl : Srt l) (ht : ∀ x ∈ l, x.2 < y.2) (hB : BS (fun k => !tless y (att xs k)) a m i i) : Merged p l [y] q (p ++ l.take (i - a) ++ [y] ++ l.drop (i - a) ++ q) := by
  refine ⟨l.take (i - a) ++ [y] ++ l.drop (i - a), ?_, ?_, by simp⟩
  · rw [List.append_assoc]
    refine (List.perm_append_comm_assoc _ _ _).trans ?_
    rw [List.take_append_drop]
    exact List.perm_append_comm
  · have hm := h.hm
    have y1 : ∀ z ∈ l.take (i - a), slt z y := fun z hz => by
      obtain ⟨k, hk, rfl⟩ := List.mem_take_iff_getElem.1 hz
      have := hB.yes (a + k) (by omega) (by omega)
      have g := h.l_at (k := a + k) (by omega) (by omega)
      rw [show a + k - a = k by omega, List.getElem?_eq_getElem (by omega)] at g
      refine slt_no ?_ (ht _ (List.getElem_mem _))
      rw [Option.some.inj g]; simpa using this
    have y2 : ∀ z ∈ l.drop (i - a), slt y z := fun z hz => by
      obtain ⟨k, hk, rfl⟩ := List.mem_drop_iff_getElem.1 hz
      have := hB.no (i + k) (by omega) (by have := hB.le1; omega)
      have g := h.l_at (k := i + k) (by have := hB.le1; omega) (by have := hB.le1; omega)
      rw [show i + k - a = (i - a) + k by have := hB.le1; omega, List.getElem?_eq_getElem (by omega)] at g
      rw [Option.some.inj g]; exact slt_yes (by simpa using this)
    rw [List.append_assoc]
    refine List.pairwise_append.2 ⟨hl.sublist (List.take_sublist _ _), List.pairwise_cons.2 ⟨y2, hl.sublist (List.drop_sublist _ _)⟩, fun u hu v hv => ?_⟩
    rcases List.mem_cons.1 hv with rfl | hv
    · exact y1 u hu
    · exact slt_trans (y1 u hu) (y2 v hv)
/-- Where the third search ends: both are cut in two, and the two outer ones are changed. -/
structure Cut (l r l1 l2 r1 r2 : List TE) : Prop where
  el : l = l1 ++ l2
  er : r = r1 ++ r2
  h1 : ∀ x ∈ l1, ∀ y ∈ r2, slt x y
  h2 : ∀ y ∈ r1, ∀ x ∈ l2, slt y x
theorem cut3 (h : Parts p l r q xs a m b) (hl : Srt l) (hr : Srt r) (ht : ∀ x ∈ l, ∀ y ∈ r, x.2 < y.2) {s e c mid : Nat} (hmid : mid = (a + b) / 2) (hse : (mid < m ∧ s + b = mid + m ∧ e = mid) ∨ (m ≤ mid ∧ s = a ∧ e = m))
    (hB : BS (fun k => !tless (att xs (mid + m - 1 - k)) (att xs k)) s e c c) : Cut l r (l.take (c - a)) (l.drop (c - a)) (r.take (mid - c)) (r.drop (mid - c)) := by
  have hm := h.hm
  have hb := h.hb
  have b1 := hB.le1
  have b2 := hB.le3
  refine ⟨(List.take_append_drop _ _).symm, (List.take_append_drop _ _).symm, fun x hx y hy => ?_, fun y hy x hx => ?_⟩
  · obtain ⟨k, hk, rfl⟩ := List.mem_take_iff_getElem.1 hx
    obtain ⟨k', hk', rfl⟩ := List.mem_drop_iff_getElem.1 hy
    by_cases hcs : c = s
    · omega
    · have hv := hB.no
      have := hB.yes (c - 1) (by omega) (by omega)
      simp only [Bool.not_eq_true'] at this
      have gl := h.l_at (k := c - 1) (by omega) (by omega)
      have gr := h.r_at (k := mid + m - 1 - (c - 1)) (by omega) (by omega)
      have e1 : tless (att xs (mid + m - 1 - (c - 1))) l[k] = false := by
        cases hz : tless (att xs (mid + m - 1 - (c - 1))) l[k] with
        | false => rfl
        | true => rw [tless_run' hl (i := k) (j := c - 1 - a) (by omega) (List.getElem?_eq_getElem (by omega)) gl hz] at this; cases this
      refine slt_no ?_ (ht _ (List.getElem_mem _) _ (List.getElem_mem _))
      cases hz : tless r[mid - c + k'] l[k] with
      | false => rfl
      | true => rw [tless_run hr (i := mid + m - 1 - (c - 1) - m) (j := mid - c + k') (by omega) gr (List.getElem?_eq_getElem (by omega)) hz] at e1; cases e1
  · obtain ⟨k, hk, rfl⟩ := List.mem_take_iff_getElem.1 hy
    obtain ⟨k', hk', rfl⟩ := List.mem_drop_iff_getElem.1 hx
    by_cases hce : c = e
    · omega
    · have := hB.no c (by omega) (by omega)
      simp only [Bool.not_eq_false'] at this
      have gl := h.l_at (k := c) (by omega) (by omega)
      have gr := h.r_at (k := mid + m - 1 - c) (by omega) (by omega)
      refine slt_yes ?_
      have e1 := tless_run hr (i := k) (j := mid + m - 1 - c - m) (by omega) (List.getElem?_eq_getElem (by omega)) gr this
      exact tless_run' hl (i := c - a) (j := c - a + k') (by omega) gl (List.getElem?_eq_getElem (by omega)) e1
end
theorem merged_cut {p l r q l1 l2 r1 r2 s1 s2 : List TE} (hl : Srt l) (hr : Srt r) (h : Cut l r l1 l2 r1 r2) (h1 : s1.Perm (l1 ++ r1)) (g1 : Srt s1) (h2 : s2.Perm (l2 ++ r2)) (g2 : Srt s2) : Merged p l r q (p ++ s1 ++ s2 ++ q) := by
  obtain ⟨rfl, rfl, k1, k2⟩ := h
  have hl' := List.pairwise_append.1 hl
  have hr' := List.pairwise_append.1 hr
  refine ⟨s1 ++ s2, ?_, List.pairwise_append.2 ⟨g1, g2, fun x hx y hy => ?_⟩, by simp⟩
  · refine (h1.append h2).trans ?_
    rw [List.append_assoc, List.append_assoc]
    refine List.Perm.append_left _ ?_
    rw [← List.append_assoc, ← List.append_assoc]
    exact (List.perm_append_comm).append_right _
  · rcases List.mem_append.1 (h1.mem_iff.1 hx) with hx | hx <;> rcases List.mem_append.1 (h2.mem_iff.1 hy) with hy | hy
    · exact hl'.2.2 x hx y hy
    · exact k1 x hx y hy
    · exact k2 x hx y hy
    · exact hr'.2.2 x hx y hy
end Go.Proofs.YtemgonomenjjaaaGreatDoor
/- One thing of a state is lent to a call, which hands another one back in its place. Over any program. -/
namespace Go.Proofs.YtemgonomenjjaaaGreatDoor.Mem
open Go Go.RowKit

section
variable {G : Nat → Prop} {w0 w w' : World} {L : List Asn} {A A' : Asn} {i : Nat}
theorem St.stepAt (S : St G w0 w L) (hi : L[i]? = some A) (ho : A.sh = false) : ∃ F, A.at_ w F ∧ ∀ w' A', (∃ F', Keep F w w' ∧ A'.at_ w' F' ∧ ∀ b, F' b → F b ∨ w.heap.size ≤ b) → St G w0 w' (L.set i A') := by
  obtain ⟨Fs, hf, hd⟩ := S.ex
  refine ⟨Fs i, (hf i A hi).1, fun w' A' ⟨F', hK, hA', hF'⟩ => ?_⟩
  have hil := (List.getElem?_eq_some_iff.1 hi).1
  have hnew : ∀ b, F' b → Fs i b ∨ w.heap.size ≤ b := hF'
  have apart : ∀ j B, j ≠ i → L[j]? = some B → ∀ b, Fs j b → ¬ Fs i b := by
    intro j B hj hB b hb hb'
    rcases Nat.lt_or_gt_of_ne hj with h | h
    · rcases hd j i B A h hB hi with ⟨_, e⟩ | e
      · rw [ho] at e; cases e
      · exact e b hb hb'
    · rcases hd i j A B h hi hB with ⟨e, _⟩ | e
      · rw [ho] at e; cases e
      · exact e b hb' hb
  refine ⟨S.keep.trans hK (fun x hx hn => ⟨hn, fun hb => ?_⟩), fun j => if j = i then F' else Fs j, fun j B hj => ?_, fun j k B C hjk hj hk => ?_⟩
  · rcases (hf i A hi).2 ho x hb with h | h
    · exact hn h
    · omega
  · by_cases e : j = i
    · subst e
      rw [List.getElem?_set_self hil] at hj
      cases hj
      simp only [if_true]
      refine ⟨hA', fun _ b hb => ?_⟩
      rcases hnew b hb with h | h
      · exact (hf j A hi).2 ho b h
      · exact .inr (Nat.le_trans S.size h)
    · rw [List.getElem?_set_ne (Ne.symm e)] at hj
      simp only [if_neg e]
      exact ⟨B.loc (hf j B hj).1 (fun b hb => hK.block b (B.lt (hf j B hj).1 b hb) (apart j B e hj b hb)), (hf j B hj).2⟩
  · by_cases e : j = i
    · subst e
      have e' : k ≠ j := by omega
      rw [List.getElem?_set_ne (Ne.symm e')] at hk
      simp only [if_true, if_neg e']
      refine .inr fun b hb hb' => ?_
      rcases hnew b hb with h | h
      · exact apart k C e' hk b hb' h
      · have := C.lt (hf k C hk).1 b hb'; omega
    · rw [List.getElem?_set_ne (Ne.symm e)] at hj
      by_cases e' : k = i
      · subst e'
        simp only [if_true, if_neg e]
        refine .inr fun b hb hb' => ?_
        rcases hnew b hb' with h | h
        · exact apart j B e hj b hb h
        · have := B.lt (hf j B hj).1 b hb; omega
      · rw [List.getElem?_set_ne (Ne.symm e')] at hk
        simp only [if_neg e, if_neg e']
        exact hd j k B C hjk hj hk
/-- One thing is lent to a call, and comes back turned. -/
theorem St.lend1 (S : St G w0 w L) (i : Nat) (hi : L[i]? = some A) (ho : A.sh = false) : ∃ F, A.at_ w F ∧ ∀ w' A', A'.sh = false → St F w w' [A'] → St G w0 w' (L.set i A') := by
  obtain ⟨F, h1, h2⟩ := S.stepAt hi ho
  refine ⟨F, h1, fun w' A' ho' T => ?_⟩
  obtain ⟨Gs, hg, _⟩ := T.ex
  obtain ⟨g1, g2⟩ := hg 0 A' rfl
  exact h2 w' A' ⟨Gs 0, T.keep, g1, g2 ho'⟩
end
end Go.Proofs.YtemgonomenjjaaaGreatDoor.Mem

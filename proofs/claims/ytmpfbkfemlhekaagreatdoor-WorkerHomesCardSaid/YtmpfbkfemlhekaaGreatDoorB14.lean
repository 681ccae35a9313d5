import Derived.Test.YtmpfbkfemlhekaaGreatDoorB10
import Derived.Test.YtmpfbkfemlhekaaGreatDoorB13
import Derived.Test.YtmpfbkfemlhekaaGreatDoorB08
import Derived.Test.YtmpfbkfemlhekaaGreatDoorB04
/- The walk of model.New. -/
namespace Go.Proofs.YtmpfbkfemlhekaaGreatDoor
open Go Go.RowKit Reg Mem

def nilS : Value := .slice none 0 0
def NewRel (bx R0 : Nat) (cs : Array Value) (aP : Option Addr) (cP : Nat) (vL vS : Value) (hs : List Value) (c : Cfg) (w : World) (i : Value) (wr : World) : Prop :=
  ∃ (j : Nat) (gs : List Value), j ≤ c.programs.length ∧ i = .int .i64 j ∧ gs.length = j ∧
    St (fun _ => False) w wr [Blk false bx cs 26, Own 153 vcell 1 (.slice (some ⟨R0, 0, none⟩) c.programs.length c.programs.length) (gs ++ List.replicate (c.programs.length - j) nilS), Sls false Instr.cells 5 gs (c.programs.take j), Sls true Instr.cells 5 hs c.programs, Sl true vcell 1 (.slice aP c.programs.length cP) hs, Sl true Place.cells 5 vL c.lps, Sl true Start.cells 4 vS c.starts]
def NewPost (c : Cfg) (w : World) (e : Ending) (w' : World) : Prop :=
  (cfgE c ≠ 0 ∧ e = .returned (.tuple #[.pointer none, .int .i64 (cfgE c)]) ∧ Below w.heap.size w w') ∨
  (cfgE c = 0 ∧ ∃ R vs hs, e = .returned (.tuple #[.pointer (some ⟨R, 0, none⟩), .int .i64 0]) ∧ St (fun _ => False) w w' [ModA false 106 R vs hs c])
set_option maxRecDepth 100000 in
set_option maxHeartbeats 8000000 in
theorem new_calls (vs hs : List Value) (c : Cfg) (w : World) (F F2 : Nat → Prop) (h : (CfgA true vs hs c).at_ w F) (ht : Tab.at_ w F2) (hm : Mid c) (hm2 : ∀ p ∈ c.programs, p.length ≤ 65536) :
    Calls Tryz.prog 33 #[.agg vs.toArray] w (NewPost c w) := by
  have S : St (fun _ => False) w w [CfgA true vs hs c, Tab] := ((St.init _ w).share rfl rfl ht).share rfl rfl h
  obtain ⟨aP, cP, aL, cL, aS, cS, rfl, hlen, S⟩ := S.cfg 0 rfl
  clear h ht
  have hp1 := hm.p
  have hp2 := hm.l
  have hp3 := hm.s
  have HC : Hid (∀ w F F2, (CfgA true [.slice aP c.programs.length cP, .slice aL c.lps.length cL, .slice aS c.starts.length cS, .int .i64 c.fin, .int .i64 c.fuel, .int .i64 c.fan] hs c).at_ w F → Tab.at_ w F2 →
      Calls Tryz.prog 66 #[.agg #[.slice aP c.programs.length cP, .slice aL c.lps.length cL, .slice aS c.starts.length cS, .int .i64 c.fin, .int .i64 c.fuel, .int .i64 c.fan]] w fun r w' => r = .returned (.int .i64 (cfgE c)) ∧ Below w.heap.size w w') :=
    fun w F F2 h ht => mcheck_calls _ hs c w F F2 h ht hm
  obtain ⟨e, he⟩ : ∃ e, cfgE c = e := ⟨_, rfl⟩
  unfold NewPost
  rw [he] at HC ⊢
  have He := Lib.hid he
  clear he
  by_cases h0 : e = 0
  case neg =>
    have h1 : (e != 0) = true := by simpa using h0
    have H0 := Lib.hid h0
    clear h0
    go_enter Tryz.func33, Tryz.ntmps33
    go_wp2_with first | ((with_reducible apply wps_boxa S); (case hx => rfl); clear S; intro bx wz S) | (go_at_call 66; refine Calls.mono (HC.out _ _ _ (S.get (i := 5) rfl).choose_spec (S.get (i := 6) rfl).choose_spec) ?_; rintro e wz ⟨rfl, hE⟩; replace S := S.ext (Keep.of_below hE); clear hE) | ((with_reducible refine tot_done ?ht ?_); (case ht => kernel_rfl)) | ((with_reducible apply wps_boxa S); (case hx => rfl); clear S; intro bz wz S) | ((with_reducible apply wps_box1 (v := .int _ _) S); (case hx | h1 => rfl); clear S; intro bz wz S) | ((with_reducible apply wps_box1 (v := .bool _) S); (case hx | h1 => rfl); clear S; intro bz wz S) | ((with_reducible apply wps_box1 (v := .slice _ _ _) S); (case hx | h1 => rfl); clear S; intro bz wz S) | ((with_reducible apply wps_box1 (v := .pointer _) S); (case hx | h1 => rfl); clear S; intro bz wz S) | ((with_reducible apply wps_box1 (v := .map _) S); (case hx | h1 => rfl); clear S; intro bz wz S) | ((with_reducible apply wps_box1 (v := .string _) S); (case hx | h1 => rfl); clear S; intro bz wz S) | ((with_reducible apply wps_box1 (v := .func _ _ _) S); (case hx | h1 => rfl); clear S; intro bz wz S) | ((with_reducible apply wps_load S 0); (case hx | hi | hu => rfl); (case hT => decide +kernel)) | ((with_reducible apply wps_loada (T := 26) (k := 6) S 0); (case hx | hi => rfl); (case hk => exact Nat.le_of_ble_eq_true rfl); (case hT => decide +kernel))
    go_ret2
    exact .inl ⟨H0.out, by simp, S.below⟩
  case pos =>
    subst h0
    go_enter Tryz.func33, Tryz.ntmps33
    go_wp2_with first | ((with_reducible apply wps_boxa S); (case hx => rfl); clear S; intro bx wz S) | (go_at_call 66; refine Calls.mono (HC.out _ _ _ (S.get (i := 5) rfl).choose_spec (S.get (i := 6) rfl).choose_spec) ?_; rintro e wz ⟨rfl, hE⟩; replace S := S.ext (Keep.of_below hE); clear hE) | ((with_reducible apply wps_make vcells Tryz.underlying22 _ zero_Hdr S (n := c.programs.length)); (case hx | hy => rfl); (case hn => omega); clear S; intro bz wz S) | ((with_reducible refine tot_done ?ht ?_); (case ht => kernel_rfl)) | ((with_reducible apply wps_boxa S); (case hx => rfl); clear S; intro bz wz S) | ((with_reducible apply wps_box1 (v := .int _ _) S); (case hx | h1 => rfl); clear S; intro bz wz S) | ((with_reducible apply wps_box1 (v := .bool _) S); (case hx | h1 => rfl); clear S; intro bz wz S) | ((with_reducible apply wps_box1 (v := .slice _ _ _) S); (case hx | h1 => rfl); clear S; intro bz wz S) | ((with_reducible apply wps_box1 (v := .pointer _) S); (case hx | h1 => rfl); clear S; intro bz wz S) | ((with_reducible apply wps_box1 (v := .map _) S); (case hx | h1 => rfl); clear S; intro bz wz S) | ((with_reducible apply wps_box1 (v := .string _) S); (case hx | h1 => rfl); clear S; intro bz wz S) | ((with_reducible apply wps_box1 (v := .func _ _ _) S); (case hx | h1 => rfl); clear S; intro bz wz S) | ((with_reducible apply wps_load S 0); (case hx | hi | hu => rfl); (case hT => decide +kernel)) | ((with_reducible apply wps_loada (T := 26) (k := 6) S 0); (case hx | hi => rfl); (case hk => exact Nat.le_of_ble_eq_true rfl); (case hT => decide +kernel)) | ((with_reducible apply wps_load S 1); (case hx | hi | hu => rfl); (case hT => decide +kernel)) | ((with_reducible apply wps_loada (T := 26) (k := 6) S 1); (case hx | hi => rfl); (case hk => exact Nat.le_of_ble_eq_true rfl); (case hT => decide +kernel))
    clear HC
    replace S := (S.slsNil Instr.cells 5).pick [2, 1, 0, 3, 4, 5, 6] rfl
    simp only [pick, nth] at S
    go_loopw [20] (fun i wr => NewRel bx bz #[.slice aP c.programs.length cP, .slice aL c.lps.length cL, .slice aS c.starts.length cS, .int .i64 c.fin, .int .i64 c.fuel, .int .i64 c.fan] aP cP (.slice aL c.lps.length cL) (.slice aS c.starts.length cS) hs c w i wr) (fun i _ => c.programs.length - (intOf i).toNat)
    case atStart => exact ⟨0, [], Nat.zero_le _, rfl, rfl, S⟩
    case round =>
      clear S
      obtain ⟨j, gs, hj, rfl, hgs, S⟩ := hrel
      by_cases hlt : j < c.programs.length
      · obtain ⟨p, hp⟩ : ∃ p, c.programs[j]? = some p := ⟨_, List.getElem?_eq_getElem hlt⟩
        obtain ⟨v, hv⟩ : ∃ v, hs[j]? = some v := ⟨_, List.getElem?_eq_getElem (by omega)⟩
        obtain ⟨R, o, rfl⟩ : ∃ R o, aP = some ⟨R, o, none⟩ := (S.sl 4 rfl).elim fun F h => h.head (by omega)
        have hlt2 : (j : Int) < c.programs.length := by omega
        have hpn := hm2 p (List.mem_of_getElem? hp)
        obtain ⟨av, cv, rfl, _⟩ := (S.sls 3 rfl).elim fun F h => (h.2 j v p hv hp).form
        have hr : List.replicate (c.programs.length - j) nilS = nilS :: List.replicate (c.programs.length - (j + 1)) nilS := by
          rw [← List.replicate_succ]; congr 1; omega
        rw [hr] at S
        have hj0 : (gs ++ nilS :: List.replicate (c.programs.length - (j + 1)) nilS)[j]? = some nilS := by rw [← hgs]; simp
        clear hr
        have Hp := Lib.hid hp
        have Hv := Lib.hid hv
        have Hj0 := Lib.hid hj0
        clear hp hv hj0
        go_wp2_with first | ((with_reducible apply wps_load_el S 4 (hj := Hv.out) (q := 0) (u := (.slice av p.length cv))); (case hx | hi => rfl); (case hn => omega); (case hu => rfl); (case hT => decide +kernel)) | ((with_reducible refine tot_done ?ht ?_); (case ht => kernel_rfl)) | ((with_reducible apply wps_boxa S); (case hx => rfl); clear S; intro bz wz S) | ((with_reducible apply wps_box1 (v := .int _ _) S); (case hx | h1 => rfl); clear S; intro bz wz S) | ((with_reducible apply wps_box1 (v := .bool _) S); (case hx | h1 => rfl); clear S; intro bz wz S) | ((with_reducible apply wps_box1 (v := .slice _ _ _) S); (case hx | h1 => rfl); clear S; intro bz wz S) | ((with_reducible apply wps_box1 (v := .pointer _) S); (case hx | h1 => rfl); clear S; intro bz wz S) | ((with_reducible apply wps_box1 (v := .map _) S); (case hx | h1 => rfl); clear S; intro bz wz S) | ((with_reducible apply wps_box1 (v := .string _) S); (case hx | h1 => rfl); clear S; intro bz wz S) | ((with_reducible apply wps_box1 (v := .func _ _ _) S); (case hx | h1 => rfl); clear S; intro bz wz S) | ((with_reducible apply wps_load S 0); (case hx | hi | hu => rfl); (case hT => decide +kernel)) | ((with_reducible apply wps_loada (T := 26) (k := 6) S 0); (case hx | hi => rfl); (case hk => exact Nat.le_of_ble_eq_true rfl); (case hT => decide +kernel))
        refine Calls.mono (clone_In _ _ ((S.slsEl 3 rfl Hv.out Hp.out).get (i := 0) rfl).choose_spec (by omega)) ?_
        rintro e wz ⟨ad2, c2, rfl, _, T⟩
        replace S := S.join T rfl
        simp only [List.cons_append, List.nil_append] at S
        clear T
        go_wp2_with first | ((with_reducible apply wps_store_own vcells S 2 (hj := Hj0.out) (e' := (.slice ad2 p.length c2)) (q := 0)); (case hx => rfl); (case hn => omega); (case hi | hy | h1 | he => rfl); (case hq => decide); (case hT => decide +kernel); clear S; intro wz S; simp only [List.set_cons_succ, List.set_cons_zero] at S) | ((with_reducible refine tot_done ?ht ?_); (case ht => kernel_rfl)) | ((with_reducible apply wps_boxa S); (case hx => rfl); clear S; intro bz wz S) | ((with_reducible apply wps_box1 (v := .int _ _) S); (case hx | h1 => rfl); clear S; intro bz wz S) | ((with_reducible apply wps_box1 (v := .bool _) S); (case hx | h1 => rfl); clear S; intro bz wz S) | ((with_reducible apply wps_box1 (v := .slice _ _ _) S); (case hx | h1 => rfl); clear S; intro bz wz S) | ((with_reducible apply wps_box1 (v := .pointer _) S); (case hx | h1 => rfl); clear S; intro bz wz S) | ((with_reducible apply wps_box1 (v := .map _) S); (case hx | h1 => rfl); clear S; intro bz wz S) | ((with_reducible apply wps_box1 (v := .string _) S); (case hx | h1 => rfl); clear S; intro bz wz S) | ((with_reducible apply wps_box1 (v := .func _ _ _) S); (case hx | h1 => rfl); clear S; intro bz wz S) | ((with_reducible apply wps_load S 0); (case hx | hi | hu => rfl); (case hT => decide +kernel)) | ((with_reducible apply wps_loada (T := 26) (k := 6) S 0); (case hx | hi => rfl); (case hk => exact Nat.le_of_ble_eq_true rfl); (case hT => decide +kernel)) | ((with_reducible apply wps_load S 1); (case hx | hi | hu => rfl); (case hT => decide +kernel)) | ((with_reducible apply wps_loada (T := 26) (k := 6) S 1); (case hx | hi => rfl); (case hk => exact Nat.le_of_ble_eq_true rfl); (case hT => decide +kernel))
        rw [hset hgs.symm] at S
        replace S := ((S.freeze false 0 incells rfl).pick [0, 3, 1, 2, 4, 5, 6, 7] rfl)
        simp only [List.set_cons_zero, pick, nth] at S
        replace S := S.slsSnoc.pick [1, 2, 0, 3, 4, 5, 6] rfl
        simp only [pick, nth] at S
        go_roundw
        case rel =>
          refine ⟨j + 1, gs ++ [.slice ad2 p.length c2], by omega, by go_num, by simp [hgs], ?_⟩
          have ht : c.programs.take (j + 1) = c.programs.take j ++ [p] := by rw [List.take_add_one, Hp.out]; rfl
          rw [ht]
          exact S
        case measure => first | (simp [intOf]; done) | (simp [intOf]; omega)
      · obtain rfl : j = c.programs.length := by omega
        rw [Nat.sub_self, List.replicate_zero, List.append_nil, List.take_length] at S
        replace S := S.freeze false 1 vcells rfl
        simp only [List.set_cons_succ, List.set_cons_zero] at S
        obtain ⟨ps, ls, ss, fin, fuel, fan⟩ := c
        have hz := He.out
        simp only at S hp1 hp2 hp3 hlen
        go_wp2_with first | ((with_reducible apply wps_store S 0); (case hx | hy | hi | h1 => rfl); (case hn => exact Nat.le_of_ble_eq_true rfl); (case hT => decide +kernel); clear S; intro wz S; simp only [List.set_cons_zero, List.setIfInBounds_toArray] at S) | ((with_reducible refine tot_done ?ht ?_); (case ht => kernel_rfl)) | ((with_reducible apply wps_boxa S); (case hx => rfl); clear S; intro bz wz S) | ((with_reducible apply wps_box1 (v := .int _ _) S); (case hx | h1 => rfl); clear S; intro bz wz S) | ((with_reducible apply wps_box1 (v := .bool _) S); (case hx | h1 => rfl); clear S; intro bz wz S) | ((with_reducible apply wps_box1 (v := .slice _ _ _) S); (case hx | h1 => rfl); clear S; intro bz wz S) | ((with_reducible apply wps_box1 (v := .pointer _) S); (case hx | h1 => rfl); clear S; intro bz wz S) | ((with_reducible apply wps_box1 (v := .map _) S); (case hx | h1 => rfl); clear S; intro bz wz S) | ((with_reducible apply wps_box1 (v := .string _) S); (case hx | h1 => rfl); clear S; intro bz wz S) | ((with_reducible apply wps_box1 (v := .func _ _ _) S); (case hx | h1 => rfl); clear S; intro bz wz S) | ((with_reducible apply wps_load S 0); (case hx | hi | hu => rfl); (case hT => decide +kernel)) | ((with_reducible apply wps_loada (T := 26) (k := 6) S 0); (case hx | hi => rfl); (case hk => exact Nat.le_of_ble_eq_true rfl); (case hT => decide +kernel))
        refine Calls.mono (clone_Pl _ _ (S.get (i := 5) rfl).choose_spec (by omega)) ?_
        rintro e wz ⟨ad2, c2, rfl, _, T⟩
        replace S := ((S.join T rfl).freeze false 0 plcells rfl).pick [1, 0, 2, 3, 7] rfl
        simp only [List.cons_append, List.nil_append, List.set_cons_zero, pick, nth] at S
        clear T
        go_wp2_with first | ((with_reducible apply wps_store S 0); (case hx | hy | hi | h1 => rfl); (case hn => exact Nat.le_of_ble_eq_true rfl); (case hT => decide +kernel); clear S; intro wz S; simp only [List.set_cons_succ, List.set_cons_zero, List.setIfInBounds_toArray] at S) | ((with_reducible refine tot_done ?ht ?_); (case ht => kernel_rfl)) | ((with_reducible apply wps_boxa S); (case hx => rfl); clear S; intro bz wz S) | ((with_reducible apply wps_box1 (v := .int _ _) S); (case hx | h1 => rfl); clear S; intro bz wz S) | ((with_reducible apply wps_box1 (v := .bool _) S); (case hx | h1 => rfl); clear S; intro bz wz S) | ((with_reducible apply wps_box1 (v := .slice _ _ _) S); (case hx | h1 => rfl); clear S; intro bz wz S) | ((with_reducible apply wps_box1 (v := .pointer _) S); (case hx | h1 => rfl); clear S; intro bz wz S) | ((with_reducible apply wps_box1 (v := .map _) S); (case hx | h1 => rfl); clear S; intro bz wz S) | ((with_reducible apply wps_box1 (v := .string _) S); (case hx | h1 => rfl); clear S; intro bz wz S) | ((with_reducible apply wps_box1 (v := .func _ _ _) S); (case hx | h1 => rfl); clear S; intro bz wz S) | ((with_reducible apply wps_load S 0); (case hx | hi | hu => rfl); (case hT => decide +kernel)) | ((with_reducible apply wps_loada (T := 26) (k := 6) S 0); (case hx | hi => rfl); (case hk => exact Nat.le_of_ble_eq_true rfl); (case hT => decide +kernel))
        refine Calls.mono (clone_Sta _ _ (S.get (i := 4) rfl).choose_spec (by omega)) ?_
        rintro e wz ⟨ad3, c3, rfl, _, T⟩
        replace S := ((S.join T rfl).freeze false 0 stcells rfl).pick [1, 3, 2, 0, 4] rfl
        simp only [List.cons_append, List.nil_append, List.set_cons_zero, pick, nth] at S
        clear T
        go_wp2_with first | ((with_reducible apply wps_store S 0); (case hx | hy | hi | h1 => rfl); (case hn => exact Nat.le_of_ble_eq_true rfl); (case hT => decide +kernel); clear S; intro wz S; simp only [List.set_cons_succ, List.set_cons_zero, List.setIfInBounds_toArray] at S) | ((with_reducible apply wps_boxa S); (case hx => rfl); clear S; intro b2 wz S) | ((with_reducible refine tot_done ?ht ?_); (case ht => kernel_rfl)) | ((with_reducible apply wps_boxa S); (case hx => rfl); clear S; intro bz wz S) | ((with_reducible apply wps_box1 (v := .int _ _) S); (case hx | h1 => rfl); clear S; intro bz wz S) | ((with_reducible apply wps_box1 (v := .bool _) S); (case hx | h1 => rfl); clear S; intro bz wz S) | ((with_reducible apply wps_box1 (v := .slice _ _ _) S); (case hx | h1 => rfl); clear S; intro bz wz S) | ((with_reducible apply wps_box1 (v := .pointer _) S); (case hx | h1 => rfl); clear S; intro bz wz S) | ((with_reducible apply wps_box1 (v := .map _) S); (case hx | h1 => rfl); clear S; intro bz wz S) | ((with_reducible apply wps_box1 (v := .string _) S); (case hx | h1 => rfl); clear S; intro bz wz S) | ((with_reducible apply wps_box1 (v := .func _ _ _) S); (case hx | h1 => rfl); clear S; intro bz wz S) | ((with_reducible apply wps_load S 0); (case hx | hi | hu => rfl); (case hT => decide +kernel)) | ((with_reducible apply wps_loada (T := 26) (k := 6) S 0); (case hx | hi => rfl); (case hk => exact Nat.le_of_ble_eq_true rfl); (case hT => decide +kernel))
        go_ret2
        replace S := S.pick [0, 2, 3, 4, 5] rfl
        simp only [pick, nth] at S
        refine .inr ⟨trivial, _, _, _, rfl, S.modNew⟩
end Go.Proofs.YtmpfbkfemlhekaaGreatDoor
/- The walk of vm.New. -/
namespace Go.Proofs.YtmpfbkfemlhekaaGreatDoor
open Go Go.RowKit Reg Mem

def VNewPost (s : State) (e : Event) (p : List Instr) (fan : Int) (w : World) (r : Ending) (w' : World) : Prop :=
  ∃ R vp, r = .returned (.pointer (some ⟨R, 0, none⟩)) ∧ St (fun _ => False) w w' [Blk false R (machCells e vp (startE s) fan nilS) 329, Own 282 Emit.cells 4 nilS [], Own 162 Instr.cells 5 vp p]
end Go.Proofs.YtmpfbkfemlhekaaGreatDoor
/- The walks of a machine's Sent and of vm.Run. -/
namespace Go.Proofs.YtmpfbkfemlhekaaGreatDoor
open Go Go.RowKit Reg Mem

def runE (p : List Instr) (s : State) (e : Event) (fuel fan : Int) : Mach := stepsE p e fan (min fuel 1024).toNat (startE s)
def Mach.state (m : Mach) : State := ⟨m.get 0, m.get 1, m.get 2, m.get 3⟩
def VRunRel (Rm bo : Nat) (cso : Array Value) (p : List Instr) (s : State) (e : Event) (N : Nat) (fan : Int) (w : World) (steps : Value) (wr : World) : Prop :=
  ∃ (k : Nat) (m : Mach) (vs : Value) (vp2 : Value), k ≤ N ∧ steps = .int .i64 k ∧ Hid (stepsE p e fan (N - k) m = stepsE p e fan N (startE s)) ∧ Hid (m.cs.length = 8) ∧ Hid (0 ≤ m.at_) ∧ Hid (m.sent.length ≤ k) ∧
    St (fun _ => False) w wr [Blk false Rm (machCells e vp2 m fan vs) 329, Own 282 Emit.cells 4 vs m.sent, Sl true Instr.cells 5 vp2 p, Tab, Blk false bo cso 70]
def VRunPost (m : Mach) (w : World) (r : Ending) (w' : World) : Prop :=
  ∃ (k : Int) (ad : Option Addr) (c : Nat), r = .returned (.tuple #[.agg #[.int .i64 m.state.n0, .int .i64 m.state.n1, .int .i64 m.state.n2, .int .i64 m.state.n3], .slice ad m.sent.length c, .int .i64 k]) ∧ St (fun _ => False) w w' [Own 282 Emit.cells 4 (.slice ad m.sent.length c) m.sent]
end Go.Proofs.YtmpfbkfemlhekaaGreatDoor
/- Plain: batches. No program in sight. -/
namespace Go.Proofs.YtmpfbkfemlhekaaGreatDoor
open Go Go.RowKit Mem

def twiceB (l : List Event) : Bool := !decide ((l.map (·.key)).Nodup)
def procE (n : Nat) (lp : Int) : Int := if lp < 0 ∨ (n : Int) ≤ lp then 10 else 0
def atE (l : List Event) : Int := match l with | [] => 0 | x :: _ => x.key.at_
def wrongE (n : Nat) (lp : Int) (l : List Event) : Int :=
  if lp < 0 ∨ (n : Int) ≤ lp then 10 else if l.length = 0 then 14 else if ¬ (∀ x ∈ l, x.dst = lp) then 10 else if ¬ (∀ x ∈ l, x.key.at_ = atE l) then 18 else if twiceB l = true then 13 else 0
def msgE (n : Nat) (fin at_ : Int) (y : Emit) : Bool := decide (0 ≤ y.dst ∧ y.dst < n ∧ 1 ≤ y.delay ∧ y.delay ≤ 1073741824 ∧ at_ + y.delay ≤ fin)
def sendE (n : Nat) (fin lp at_ : Int) (out : List Event) (y : Emit) : List Event :=
  if msgE n fin at_ y = true then out ++ [⟨⟨at_ + y.delay, lp, at_, out.length⟩, y.dst, y.kind, y.data⟩] else out
def oneE (p : List Instr) (n : Nat) (fin fuel fan lp at_ : Int) (st : State × List Event) (x : Event) : State × List Event :=
  ((runE p st.1 x fuel fan).state, (runE p st.1 x fuel fan).sent.foldl (sendE n fin lp at_) st.2)
def batchE (p : List Instr) (n : Nat) (fin fuel fan lp : Int) (s : State) (l : List Event) : State × List Event :=
  (sortE l).foldl (oneE p n fin fuel fan lp (atE l)) (s, [])
end Go.Proofs.YtmpfbkfemlhekaaGreatDoor
/- The walks of a model's methods, at a model and at nil. -/
namespace Go.Proofs.YtmpfbkfemlhekaaGreatDoor
open Go Go.RowKit Reg Mem

section
variable (R : Nat) (vs hs : List Value) (c : Cfg) (w : World) (F : Nat → Prop)
set_option maxRecDepth 100000 in
theorem has_calls (lp : Int) (h : (ModA true 106 R vs hs c).at_ w F) : Calls Tryz.prog 75 #[.pointer (some ⟨R, 0, none⟩), .int .i64 lp] w fun r w' => r = .returned (.bool (decide (0 ≤ lp ∧ lp < c.lps.length))) ∧ Below w.heap.size w w' := by
  have S : St (fun _ => False) w w [ModA true 106 R vs hs c] := (St.init _ w).share rfl rfl h
  clear h
  replace S := S.modBlk 0 rfl
  obtain ⟨aP, cP, aL, cL, aS, cS, rfl, hlen, S⟩ := (S.modCfg 1 rfl).cfg 0 rfl
  replace S := S.pick [5] rfl
  simp only [pick, nth] at S
  by_cases h1 : 0 ≤ lp
  · go_enter Tryz.func75, Tryz.ntmps75
    go_wp2_with first | ((with_reducible apply wps_load S 0); (case hx | hi | hu => rfl); (case hT => decide +kernel))
    go_ret
    exact ⟨ret_bool (by simp [h1]), S.below⟩
  · go_enter Tryz.func75, Tryz.ntmps75
    go_wp2_with first | ((with_reducible apply wps_load S 0); (case hx | hi | hu => rfl); (case hT => decide +kernel))
    go_ret
    exact ⟨ret_bool (by simp; omega), S.below⟩
set_option maxRecDepth 100000 in
theorem lps_calls (h : (ModA true 106 R vs hs c).at_ w F) : Calls Tryz.prog 10 #[.pointer (some ⟨R, 0, none⟩)] w fun r w' => r = .returned (.int .i64 (c.lps.length : Int)) ∧ Below w.heap.size w w' := by
  have S : St (fun _ => False) w w [ModA true 106 R vs hs c] := (St.init _ w).share rfl rfl h
  clear h
  replace S := S.modBlk 0 rfl
  obtain ⟨aP, cP, aL, cL, aS, cS, rfl, hlen, S⟩ := (S.modCfg 1 rfl).cfg 0 rfl
  replace S := S.pick [5] rfl
  simp only [pick, nth] at S
  go_enter Tryz.func10, Tryz.ntmps10
  go_wp2_with first | ((with_reducible apply wps_load S 0); (case hx | hi | hu => rfl); (case hT => decide +kernel))
  go_ret
  exact ⟨by simp, S.below⟩
def state0 : List Value := [.int .i64 0, .int .i64 0, .int .i64 0, .int .i64 0]
def State.cells (s : State) : List Value := [.int .i64 s.n0, .int .i64 s.n1, .int .i64 s.n2, .int .i64 s.n3]
set_option maxRecDepth 100000 in
theorem first_at (j : Nat) (p : Place) (h : (ModA true 106 R vs hs c).at_ w F) (hp : c.lps[j]? = some p) : Calls Tryz.prog 38 #[.pointer (some ⟨R, 0, none⟩), .int .i64 j] w fun r w' => r = .returned (.agg #[.int .i64 p.first.n0, .int .i64 p.first.n1, .int .i64 p.first.n2, .int .i64 p.first.n3]) ∧ Below w.heap.size w w' := by
  have S : St (fun _ => False) w w [ModA true 106 R vs hs c] := (St.init _ w).share rfl rfl h
  clear h
  have hlt := (List.getElem?_eq_some_iff.1 hp).1
  have HA : Hid (∀ w F, (ModA true 106 R vs hs c).at_ w F → Calls Tryz.prog 75 #[.pointer (some ⟨R, 0, none⟩), .int .i64 (j : Int)] w fun r w' => r = .returned (.bool true) ∧ Below w.heap.size w w') := fun w F h => by
    have := has_calls R vs hs c w F j h; rwa [decide_eq_true (by omega)] at this
  replace S := S.modBlk 0 rfl
  obtain ⟨aP, cP, aL, cL, aS, cS, rfl, hlen, S⟩ := (S.modCfg 1 rfl).cfg 0 rfl
  replace S := S.pick [5, 2, 6] rfl
  simp only [pick, nth] at S
  obtain ⟨RL, o, rfl⟩ : ∃ R o, aL = some ⟨R, o, none⟩ := (S.sl 1 rfl).elim fun F h => h.head (by omega)
  have hlt2 : (j : Int) < c.lps.length := by omega
  have Hp := Lib.hid hp
  clear hp
  go_enter Tryz.func38, Tryz.ntmps38
  go_wp2_with first | (go_at_call 75; refine Calls.mono (HA.out _ _ (S.get (i := 3) rfl).choose_spec) ?_; rintro e wz ⟨rfl, hE⟩; replace S := S.ext (Keep.of_below hE); clear hE) | ((with_reducible apply wps_loada_el S 2 (hj := Hp.out) (q := 1) (vs := [.int .i64 p.first.n0, .int .i64 p.first.n1, .int .i64 p.first.n2, .int .i64 p.first.n3]) (m := 4)); (case hx | hi => rfl); (case hn => omega); (case hm | hv => rfl); (case hT => decide +kernel)) | ((with_reducible apply wps_storea (T := 70) S 0 (vs := [.int .i64 p.first.n0, .int .i64 p.first.n1, .int .i64 p.first.n2, .int .i64 p.first.n3]) (m := 4)); (case hx | hy | hi | hm | h1 => rfl); (case hn => exact Nat.le_of_ble_eq_true rfl); (case hT => decide +kernel); clear S; intro wz S; simp only [List.set_cons_zero, List.set_cons_succ, setAll, List.setIfInBounds_toArray] at S) | ((with_reducible apply wps_alloca (E := 70) S); (case hz => exact Tryz.zeroValue70); clear S; intro bz wz S) | ((with_reducible apply wps_load S 1); (case hx | hi | hu => rfl); (case hT => decide +kernel))
  (try simp only [Exit.inBlock, Exit.then]); (with_reducible apply S.ret_cell 0); (case hi | h | hp => rfl); (case hA => kernel_rfl); (case hd => rfl)
  exact ⟨rfl, S.below⟩
def ClonePost (p : List Instr) (w : World) (e : Ending) (w' : World) : Prop :=
  ∃ ad c, e = .returned (.slice ad p.length c) ∧ St (fun _ => False) w w' [Own 162 Instr.cells 5 (.slice ad p.length c) p]
def EvsRel (R : Nat) (vs : List Value) (vS out : Value) (ss : List Start) (w : World) (i : Value) (wr : World) : Prop :=
  ∃ j : Nat, j ≤ ss.length ∧ i = .int .i64 j ∧ St (fun _ => False) w wr [Own 48 Event.cells 7 out (startsFrom 0 (ss.take j)), Blk true R vs.toArray 106, Sl true Start.cells 4 vS ss]
theorem startsFrom_take {ss : List Start} {j : Nat} {s : Start} (h : ss[j]? = some s) : startsFrom 0 (ss.take (j + 1)) = startsFrom 0 (ss.take j) ++ [startEv j s] := by
  have hl := (List.getElem?_eq_some_iff.1 h).1
  rw [List.take_add_one, h, startsFrom_append]
  simp [startsFrom, Nat.min_eq_left (Nat.le_of_lt hl)]
set_option maxRecDepth 100000 in
set_option maxHeartbeats 4000000 in
theorem events_calls (h : (ModA true 106 R vs hs c).at_ w F) (hn : c.starts.length ≤ 65536) : Calls Tryz.prog 35 #[.pointer (some ⟨R, 0, none⟩)] w (SortPost (startsFrom 0 c.starts) w) := by
  have S : St (fun _ => False) w w [ModA true 106 R vs hs c] := (St.init _ w).share rfl rfl h
  clear h
  replace S := S.modBlk 0 rfl
  obtain ⟨aP, cP, aL, cL, aS, cS, rfl, hlen, S⟩ := (S.modCfg 1 rfl).cfg 0 rfl
  replace S := (S.pick [5, 3] rfl).nil 48 Event.cells 7
  simp only [pick, nth] at S
  obtain ⟨ps, ls, ss, fin, fuel, fan⟩ := c
  simp only at *
  go_enter Tryz.func35, Tryz.ntmps35
  go_wp2_with first | ((with_reducible apply wps_load S 1); (case hx | hi | hu => rfl); (case hT => decide +kernel))
  go_loopw [3, 14] (fun out i wr => EvsRel R [.slice aP ps.length cP, .slice aL ls.length cL, .slice aS ss.length cS, .int .i64 fin, .int .i64 fuel, .int .i64 fan] (.slice aS ss.length cS) out ss w i wr) (fun _ i _ => ss.length - (intOf i).toNat)
  case atStart => exact ⟨0, Nat.zero_le _, rfl, S⟩
  case round =>
    clear S
    obtain ⟨j, hj, rfl, S⟩ := hrel
    by_cases hlt : j < ss.length
    · obtain ⟨s, hs⟩ : ∃ s, ss[j]? = some s := ⟨_, List.getElem?_eq_getElem hlt⟩
      obtain ⟨RS, o, rfl⟩ : ∃ R o, aS = some ⟨R, o, none⟩ := (S.sl 2 rfl).elim fun F h => h.head (by omega)
      obtain ⟨F0, hF0⟩ := S.get (i := 0) rfl
      obtain ⟨ad0, c0, rfl⟩ := hF0.1.form
      clear hF0
      have hlt2 : (j : Int) < ss.length := by omega
      have HT := Lib.hid (startsFrom_take hs)
      have htl : (startsFrom 0 (ss.take j)).length ≤ 65536 := by rw [startsFrom_len]; simp; omega
      have Hs := Lib.hid hs
      clear hs
      go_wp2_with first | ((with_reducible apply wps_loada_el S 2 (hj := Hs.out) (q := 0) (vs := [.int .i64 s.dst, .int .i64 s.at_, .int .i64 s.kind, .int .i64 s.data]) (m := 4)); (case hx | hi => rfl); (case hn => omega); (case hm | hv => rfl); (case hT => decide +kernel)) | ((with_reducible apply wps_storea (T := 103) S 0 (vs := [.int .i64 s.dst, .int .i64 s.at_, .int .i64 s.kind, .int .i64 s.data]) (m := 4)); (case hx | hy | hi | hm | h1 => rfl); (case hn => exact Nat.le_of_ble_eq_true rfl); (case hT => decide +kernel); clear S; intro wz S; simp only [List.set_cons_zero, List.set_cons_succ, setAll, List.setIfInBounds_toArray] at S) | ((with_reducible apply wps_build1a (T := 66) (E := 48) S); (case hx => rfl); (case hr => intro w; kernel_rfl); clear S; intro bz wz S) | ((with_reducible apply wps_append1 elem_Ev ecells eone (by decide) S 2 (j := 0) (e := (startEv j s))); (case hx | hy | hi | hj | he => rfl); (case hl => first | omega | (simp; omega)); clear S; intro az nz cz wz hnz S; simp only [List.set_cons_succ, List.set_cons_zero] at S) | ((with_reducible apply wps_alloca (E := 103) S); (case hz => exact Tryz.zeroValue103); clear S; intro bz wz S) | ((with_reducible apply wps_load S 0); (case hx | hi | hu => rfl); (case hT => decide +kernel))
      go_roundw
      case rel => exact ⟨j + 1, by omega, by go_num, by rw [HT.out]; exact S.pick [2, 3, 4] rfl⟩
      case measure => first | (simp [intOf]; done) | (simp [intOf]; omega)
    · obtain rfl : j = ss.length := by omega
      rw [List.take_length] at S
      have S2 := S.freeze true 0 ecells rfl
      simp only [List.set_cons_zero] at S2
      clear S
      have S := S2
      clear S2
      obtain ⟨ad0, c0, rfl, _⟩ := (S.sl 0 rfl).elim fun _ h => h.form
      have htl : (startsFrom 0 ss).length ≤ 65536 := by rw [startsFrom_len]; exact hn
      go_wp2_with first | ((with_reducible apply wps_loada (T := 103) (k := 4) S 0); (case hx | hi => rfl); (case hk => exact Nat.le_of_ble_eq_true rfl); (case hT => decide +kernel))
      refine Calls.mono (sort_calls _ (startsFrom 0 ss) _ _ (S.get (i := 0) rfl).choose_spec htl) ?_
      rintro e wz ⟨ad2, c2, rfl, T⟩
      replace S := S.join T rfl
      simp only [List.cons_append, List.nil_append] at S
      clear T
      go_wp2_with first | ((with_reducible apply wps_loada (T := 103) (k := 4) S 0); (case hx | hi => rfl); (case hk => exact Nat.le_of_ble_eq_true rfl); (case hT => decide +kernel))
      go_ret
      exact ⟨_, _, rfl, S.pick [0] rfl⟩
end
end Go.Proofs.YtmpfbkfemlhekaaGreatDoor
/- The walks of batch.process, all, twice, Wrong and message. -/
namespace Go.Proofs.YtmpfbkfemlhekaaGreatDoor
open Go Go.RowKit Reg Mem

def AllRel (v : Value) (l : List Event) (lp : Int) (w : World) (i : Value) (wr : World) : Prop :=
  ∃ j : Nat, j ≤ l.length ∧ i = .int .i64 j ∧ Hid (∀ (q : Nat) y, q < j → l[q]? = some y → y.dst = lp) ∧ St (fun _ => False) w wr [Sl true Event.cells 7 v l]
def TwRel (v : Value) (s : List Event) (w : World) (i : Value) (wr : World) : Prop :=
  ∃ j : Nat, j ≤ s.length ∧ i = .int .i64 ((j : Int) + 1) ∧ Hid (∀ (q : Nat) x y, q < j → s[q]? = some x → s[q + 1]? = some y → x.key ≠ y.key) ∧ St (fun _ => False) w wr [Sl true Event.cells 7 v s]
def WrRel (v : Value) (l : List Event) (w : World) (i : Value) (wr : World) : Prop :=
  ∃ j : Nat, j ≤ l.length ∧ i = .int .i64 j ∧ Hid (∀ (q : Nat) y, q < j → l[q]? = some y → y.key.at_ = atE l) ∧ St (fun _ => False) w wr [Sl true Event.cells 7 v l]
end Go.Proofs.YtmpfbkfemlhekaaGreatDoor
/- The walk of batch.Run. -/
namespace Go.Proofs.YtmpfbkfemlhekaaGreatDoor
open Go Go.RowKit Reg Mem

structure CfgFine (c : Cfg) : Prop where
  sizes : sizesOk c
  starts : c.starts.length ≤ 256
  progs : ∀ p ∈ c.programs, codeE p = 0
  lps : ∀ p ∈ c.lps, 0 ≤ p.program ∧ p.program < c.programs.length
  dsts : ∀ s ∈ c.starts, 0 ≤ s.dst ∧ s.dst < c.lps.length
  times : ∀ s ∈ c.starts, 0 ≤ s.at_ ∧ s.at_ ≤ c.fin
def progOf (c : Cfg) (lp : Int) : List Instr := (c.programs[((c.lps[lp.toNat]?.getD ⟨0, ⟨0, 0, 0, 0⟩⟩).program).toNat]?).getD []
def batchC (c : Cfg) (lp : Int) (s : State) (l : List Event) : State × List Event := batchE (progOf c lp) c.lps.length c.fin c.fuel c.fan lp s l
def BRunPost (c : Cfg) (lp : Int) (s : State) (l : List Event) (w : World) (r : Ending) (w' : World) : Prop :=
  (wrongE c.lps.length lp l ≠ 0 ∧ r = .returned (.tuple #[.agg #[.int .i64 0, .int .i64 0, .int .i64 0, .int .i64 0], .slice none 0 0, .int .i64 (wrongE c.lps.length lp l)]) ∧ Below w.heap.size w w') ∨
  (wrongE c.lps.length lp l = 0 ∧ ∃ v, r = .returned (.tuple #[.agg #[.int .i64 (batchC c lp s l).1.n0, .int .i64 (batchC c lp s l).1.n1, .int .i64 (batchC c lp s l).1.n2, .int .i64 (batchC c lp s l).1.n3], v, .int .i64 0]) ∧
    St (fun _ => False) w w' [Own 48 Event.cells 7 v (batchC c lp s l).2])
def BRel1 (b6 b8 : Nat) (cs8 : Array Value) (v vp : Value) (R : Nat) (vs hs : List Value) (c : Cfg) (p : List Instr) (lp at_ : Int) (s : State) (l : List Event) (w : World) (out i : Value) (wr : World) : Prop :=
  ∃ (j : Nat) (st : State × List Event), j ≤ l.length ∧ i = .int .i64 j ∧ Hid (st = (l.take j).foldl (oneE p c.lps.length c.fin c.fuel c.fan lp at_) (s, [])) ∧
    St (fun _ => False) w wr [Own 48 Event.cells 7 out st.2, Blk false b6 #[.int .i64 st.1.n0, .int .i64 st.1.n1, .int .i64 st.1.n2, .int .i64 st.1.n3] 70, Sl true Event.cells 7 v l, Sl true Instr.cells 5 vp p, ModA true 106 R vs hs c, Tab, Blk false b8 cs8 70]
def BRel2 (b6 b8 : Nat) (cs8 : Array Value) (v vp ve : Value) (R : Nat) (vs hs : List Value) (c : Cfg) (p : List Instr) (lp at_ : Int) (s2 : State) (o1 : List Event) (em : List Emit) (l : List Event) (w : World) (out i : Value) (wr : World) : Prop :=
  ∃ (q : Nat) (o2 : List Event), q ≤ em.length ∧ i = .int .i64 q ∧ Hid (o2 = (em.take q).foldl (sendE c.lps.length c.fin lp at_) o1) ∧ o2.length ≤ o1.length + q ∧
    St (fun _ => False) w wr [Own 48 Event.cells 7 out o2, Sl true Emit.cells 4 ve em, Blk false b6 #[.int .i64 s2.n0, .int .i64 s2.n1, .int .i64 s2.n2, .int .i64 s2.n3] 70, Sl true Event.cells 7 v l, Sl true Instr.cells 5 vp p, ModA true 106 R vs hs c, Tab, Blk false b8 cs8 70]
end Go.Proofs.YtmpfbkfemlhekaaGreatDoor
/- Plain: a batch that was done. -/
namespace Go.Proofs.YtmpfbkfemlhekaaGreatDoor
open Go Go.RowKit Mem

structure BatE where
  at_ : Int
  lp : Int
  ins : List Event
  thn : State
  sent : List Event
end Go.Proofs.YtmpfbkfemlhekaaGreatDoor
/- Things put in another order; several slices and several more. Over any program. -/
namespace Go.Proofs.YtmpfbkfemlhekaaGreatDoor.Mem
open Go Go.RowKit

theorem St.swap2 {G : Nat → Prop} {w0 w : World} {L : List Asn} {A B : Asn} (S : St G w0 w (A :: B :: L)) : St G w0 w (B :: A :: L) := by
  obtain ⟨Fs, hf, hd⟩ := S.ex
  have g : ∀ i : Nat, ∀ X : Asn, (B :: A :: L)[i]? = some X → (A :: B :: L)[(match i with | 0 => 1 | 1 => 0 | i + 2 => i + 2 : Nat)]? = some X := by
    intro i X h
    match i with
    | 0 => exact h
    | 1 => exact h
    | i + 2 => exact h
  refine ⟨S.keep, fun i => Fs (match i with | 0 => 1 | 1 => 0 | i + 2 => i + 2 : Nat), fun i X hi => hf _ X (g i X hi), fun i j X Y hij hi hj => ?_⟩
  have hi' := g i X hi
  have hj' := g j Y hj
  match i, j, hij with
  | 0, 1, _ =>
    rcases hd 0 1 Y X (by omega) hj' hi' with ⟨e1, e2⟩ | e
    · exact .inl ⟨e2, e1⟩
    · exact .inr fun x hx hx' => e x hx' hx
  | 0, j + 2, _ => exact hd 1 (j + 2) X Y (by omega) hi' hj'
  | 1, j + 2, _ => exact hd 0 (j + 2) X Y (by omega) hi' hj'
  | i + 2, j + 2, h => exact hd (i + 2) (j + 2) X Y (by omega) hi' hj'
  | 0, 0, h => omega
  | i + 1, 0, h => omega
  | i + 1, 1, h => omega
section
variable {G : Nat → Prop} {w0 w w' : World} {L : List Asn} {A A' B C : Asn} {i : Nat}
end
end Go.Proofs.YtmpfbkfemlhekaaGreatDoor.Mem
/- A batch with where its slices lie. -/
namespace Go.Proofs.YtmpfbkfemlhekaaGreatDoor
open Go Go.RowKit Reg Mem

structure BatV where
  b : BatE
  ai : Option Addr
  ci : Nat
  ao : Option Addr
  co : Nat
def BatV.vi (x : BatV) : Value := .slice x.ai x.b.ins.length x.ci
def BatV.vo (x : BatV) : Value := .slice x.ao x.b.sent.length x.co
def BatV.cells (x : BatV) : List Value := [.int .i64 x.b.at_, .int .i64 x.b.lp, .slice x.ai x.b.ins.length x.ci, .int .i64 x.b.thn.n0, .int .i64 x.b.thn.n1, .int .i64 x.b.thn.n2, .int .i64 x.b.thn.n3, .slice x.ao x.b.sent.length x.co]
end Go.Proofs.YtmpfbkfemlhekaaGreatDoor
/- Of many things that lie apart one is taken out whole, and put back. Over any program. -/
namespace Go.Proofs.YtmpfbkfemlhekaaGreatDoor.Mem
open Go Go.RowKit Reg

theorem stars_pull : ∀ (As : List Asn) (k : Nat) (B : Asn) (w : World) (F : Nat → Prop), (stars As).at_ w F → As[k]? = some B → ∃ F1 F2, (stars (As.set k (pur True))).at_ w F1 ∧ B.at_ w F2 ∧ (∀ b, F1 b → ¬ F2 b) ∧ ∀ b, F b ↔ F1 b ∨ F2 b
  | [], k, B, w, F, _, hk => by simp at hk
  | A0 :: As, 0, B, w, F, h, hk => by
    simp at hk; subst hk
    obtain ⟨F1, F2, h1, h2, hd, hF⟩ := h
    refine ⟨F2, F1, ⟨fun _ => False, F2, ⟨trivial, fun _ => id⟩, h2, fun _ h => h.elim, fun b => ⟨.inr, fun h => h.elim False.elim id⟩⟩, h1, fun b hb hb2 => hd b hb2 hb, fun b => ?_⟩
    rw [hF b]; exact Or.comm
  | A0 :: As, k + 1, B, w, F, h, hk => by
    obtain ⟨F1, F2, h1, h2, hd, hF⟩ := h
    obtain ⟨F5, F6, h5, h6, hd5, hF5⟩ := stars_pull As k B w F2 h2 (by simpa using hk)
    refine ⟨fun b => F1 b ∨ F5 b, F6, ⟨F1, F5, h1, h5, fun b hb hb5 => hd b hb ((hF5 b).2 (.inl hb5)), fun _ => Iff.rfl⟩, h6, fun b hb hb6 => ?_, fun b => ?_⟩
    · rcases hb with hb | hb
      · exact hd b hb ((hF5 b).2 (.inr hb6))
      · exact hd5 b hb hb6
    · rw [hF b, hF5 b]; exact or_assoc.symm
theorem stars_push : ∀ (As : List Asn) (k : Nat) (A B : Asn) (w : World) (F1 F2 : Nat → Prop), (stars As).at_ w F1 → B.at_ w F2 → As[k]? = some A → (∀ b, F1 b → ¬ F2 b) → ∃ F, (stars (As.set k B)).at_ w F ∧ ∀ b, F b → F1 b ∨ F2 b
  | [], k, A, B, w, F1, F2, _, _, hk, _ => by simp at hk
  | A0 :: As, 0, A, B, w, F, FB, h, hB, hk, hd0 => by
    simp at hk; subst hk
    obtain ⟨F1, F2, h1, h2, hd, hF⟩ := h
    exact ⟨fun b => FB b ∨ F2 b, ⟨FB, F2, hB, h2, fun b hb hb2 => hd0 b ((hF b).2 (.inr hb2)) hb, fun _ => Iff.rfl⟩, fun b hb => hb.elim .inr fun h => .inl ((hF b).2 (.inr h))⟩
  | A0 :: As, k + 1, A, B, w, F, FB, h, hB, hk, hd0 => by
    obtain ⟨F1, F2, h1, h2, hd, hF⟩ := h
    obtain ⟨F5, h5, h6⟩ := stars_push As k A B w F2 FB h2 hB (by simpa using hk) (fun b hb => hd0 b ((hF b).2 (.inr hb)))
    refine ⟨fun b => F1 b ∨ F5 b, ⟨F1, F5, h1, h5, fun b hb hb5 => ?_, fun _ => Iff.rfl⟩, fun b hb => ?_⟩
    · rcases h6 b hb5 with h | h
      · exact hd b hb h
      · exact hd0 b ((hF b).2 (.inl hb)) h
    · rcases hb with h | h
      · exact .inl ((hF b).2 (.inl h))
      · rcases h6 b h with h | h
        · exact .inl ((hF b).2 (.inr h))
        · exact .inr h
section
variable {G : Nat → Prop} {w0 w : World} {L As : List Asn} {A B : Asn}
theorem St.starPull (S : St G w0 w (stars As :: L)) (k : Nat) (hk : As[k]? = some B) (hB : B.sh = false) : St G w0 w (B :: stars (As.set k (pur True)) :: L) := by
  have S2 := S.weak (i := 0) (A' := sep false (stars (As.set k (pur True))) B) rfl (fun _ => stars_sh As) fun F h => by
    obtain ⟨F1, F2, h1, h2, h3, h4⟩ := stars_pull As k B w F h hk
    exact ⟨F, fun _ hb => hb, F1, F2, h1, h2, h3, h4⟩
  simp only [List.set_cons_zero] at S2
  exact (S2.open_sep (stars_sh _) hB).swap2
theorem St.starPush (S : St G w0 w (B :: stars As :: L)) (k : Nat) (hk : As[k]? = some A) (hB : B.sh = false) : St G w0 w (stars (As.set k B) :: L) := by
  have S1 := S.swap2.close_sep (stars_sh _) hB
  have S2 := S1.weak (i := 0) (A' := stars (As.set k B)) rfl (fun _ => rfl) fun F h => by
    obtain ⟨F1, F2, h1, h2, hd, hF⟩ := h
    obtain ⟨F', h3, h4⟩ := stars_push As k A B w F1 F2 h1 h2 hk hd
    exact ⟨F', fun b hb => (hF b).2 (h4 b hb), h3⟩
  simpa using S2
end
end Go.Proofs.YtmpfbkfemlhekaaGreatDoor.Mem

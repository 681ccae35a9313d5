import Derived.Test.YtemgonomenjjaaaGreatDoorU19
import Derived.Test.YtemgonomenjjaaaGreatDoorU24
import Derived.Test.YtemgonomenjjaaaGreatDoorU25
import Derived.Test.YtemgonomenjjaaaGreatDoorU26
import Derived.Test.YtemgonomenjjaaaGreatDoorU28
/- The walk of the law FossilCommits. -/
namespace Go.Proofs.YtemgonomenjjaaaGreatDoor
open Go Go.RowKit Reg Mem

theorem sls_elC {α : Type} {sh : Bool} {enc : α → List Value} {k : Nat} {vs : List Value} {xss : List (List α)} {w : World} {F : Nat → Prop} (h : (Sls sh enc k vs xss).at_ w F) {j : Nat} {v : Value} {xs : List α} (hv : vs[j]? = some v) (hx : xss[j]? = some xs) : (Sl true enc k v xs).at_ w F :=
  ⟨h.1.2 j v xs hv hx, h.2⟩
theorem state_ceqsC (s t : State) : ceqs s.cells t.cells = decide (s = t) := by
  obtain ⟨a, b, c, d⟩ := s; obtain ⟨a', b', c', d'⟩ := t
  simp only [State.cells, ceqs, ceq, Bool.and_true, State.mk.injEq]
  rw [Bool.eq_iff_iff]; simp
/-- Two shared things are one. -/
theorem Mem.St.mergeS {G : Nat → Prop} {w0 w : World} {L : List Asn} {A B : Asn} (S : St G w0 w (A :: B :: L)) (C : Asn) (_ : A.sh = true) (_ : B.sh = true) (hC : C.sh = true) (h : ∀ F F', A.at_ w F → B.at_ w F' → C.at_ w (fun b => F b ∨ F' b)) : St G w0 w (C :: L) := by
  obtain ⟨Fs, hf, hd⟩ := S.ex
  have a := hf 0 A rfl
  have b := hf 1 B rfl
  refine ⟨S.keep, fun j => match j with | 0 => fun x => Fs 0 x ∨ Fs 1 x | j + 1 => Fs (j + 2), fun j D hj => ?_, fun j k D E hjk hj hk => ?_⟩
  · cases j with
    | zero => simp at hj; subst hj; exact ⟨h _ _ a.1 b.1, fun e => by rw [hC] at e; cases e⟩
    | succ j => simp at hj; exact hf (j + 2) D (by simpa using hj)
  · cases k with
    | zero => omega
    | succ k =>
      simp at hk
      cases j with
      | zero =>
        simp at hj; subst hj
        rcases hd 0 (k + 2) A E (by omega) rfl (by simpa using hk) with ⟨_, e⟩ | e
        · exact .inl ⟨hC, e⟩
        · rcases hd 1 (k + 2) B E (by omega) rfl (by simpa using hk) with ⟨_, e2⟩ | e2
          · exact .inl ⟨hC, e2⟩
          · exact .inr fun x hx hx' => hx.elim (fun g => e x g hx') (fun g => e2 x g hx')
      | succ j => simp at hj; exact hd (j + 2) (k + 2) D E (by omega) (by simpa using hj) (by simpa using hk)
theorem Mem.St.slsAppendS {G : Nat → Prop} {w0 w : World} {L : List Asn} {α : Type} {enc : α → List Value} {k : Nat} {vs vs' : List Value} {xss xss' : List (List α)} (S : St G w0 w (Sls true enc k vs xss :: Sls true enc k vs' xss' :: L)) : St G w0 w (Sls true enc k (vs ++ vs') (xss ++ xss') :: L) :=
  Mem.St.mergeS S _ rfl rfl rfl fun F F' h h' => by
    refine ⟨⟨by simp [h'.1.1, h.1.1], fun j u ys hu hy => ?_⟩, fun b hb => hb.elim (h.2 b) (h'.2 b)⟩
    by_cases hj : j < vs.length
    · rw [List.getElem?_append_left hj] at hu
      rw [List.getElem?_append_left (by rw [← h.1.1]; exact hj)] at hy
      exact (h.1.2 j u ys hu hy).mono fun _ => .inl
    · rw [List.getElem?_append_right (by omega)] at hu
      rw [List.getElem?_append_right (by have := h.1.1; omega)] at hy
      rw [← h.1.1] at hy
      exact (h'.1.2 _ u ys hu hy).mono fun _ => .inr
def CmRel1 (X R : Nat) (vs hs : List Value) (c : Cfg) (sv : Value) (bt : Nat) (t0 t1 : Int) (lv : Value) (lhs : List Value) (lss : List (List Event)) (w : World) (dv i : Value) (wr : World) : Prop :=
  ∃ (j : Nat) (G : LogE) (dn : List BatV), j ≤ lss.length ∧ i = .int .i64 j ∧ Hid (dn.map (·.b) = G.done) ∧ Hid (G.ss.length = c.lps.length) ∧ Hid (0 ≤ G.time) ∧ Hid (G.done.length ≤ 40 * j) ∧ Hid (∀ b ∈ G.done, b.ins.length ≤ 40 ∧ b.sent.length ≤ 320) ∧
    St (fun _ => False) w wr [Mem.Own 54 BatV.cells 8 dv dn, Sls true Event.cells 7 (dn.map BatV.vi) (dn.map fun x : BatV => x.b.ins), Sls true Event.cells 7 (dn.map BatV.vo) (dn.map fun x : BatV => x.b.sent), Mem.Own 52 State.cells 4 sv G.ss, logA X R G, ModA true 84 R vs hs c, Blk false bt #[.int .i64 t0, .int .i64 t1] 27, Sl true vcell 1 lv lhs, Sls true Event.cells 7 lhs lss, Tab]
def CmRel2 (L1 L2 : List Asn) (sv bv : Value) (ss : List State) (lb : List BatV) (bs : List BatE) (w : World) (av i : Value) (wr : World) : Prop :=
  ∃ (k : Nat) (sk : List State) (al : List Event), k ≤ lb.length ∧ ((k = 0 ∧ i = .int .i64 0) ∨ ∃ kk : Nat, k = kk + 1 ∧ i = .int .i64 ((kk : Int) + 1)) ∧ Hid ((bs.take k).foldl setst ss = sk) ∧ Hid ((bs.take k).flatMap (·.ins) = al) ∧ al.length ≤ 40 ∧
    St (fun _ => False) w wr ([Mem.Own 78 Event.cells 7 av al, Mem.Own 52 State.cells 4 sv sk, Sl true BatV.cells 8 bv lb, Sls true Event.cells 7 (lb.map BatV.vi) (lb.map fun x : BatV => x.b.ins), Sls true Event.cells 7 (lb.map BatV.vo) (lb.map fun x : BatV => x.b.sent)] ++ L1 ++ L2)
set_option maxRecDepth 100000 in
set_option maxHeartbeats 32000000 in
theorem fossilCommits_calls (vs hs : List Value) (c : Cfg) (t0 t1 : Int) (lv : Value) (lhs : List Value) (lss : List (List Event)) (w : World) (F F2 F2b F3 : Nat → Prop) (h : (CfgA true vs hs c).at_ w F) (hw : Wide c) (hwb : WideB c) (h2 : (Sl true vcell 1 lv lhs).at_ w F2) (h2b : (Sls true Event.cells 7 lhs lss).at_ w F2b)
    (hlen : lss.length ≤ 9223372036854775807) (hlens : ∀ l ∈ lss, l.length ≤ 9223372036854775807) (ht : Tab.at_ w F3) :
    Calls Tryz.prog 3 #[.agg vs.toArray, .agg #[.int .i64 t0, .int .i64 t1], lv] w fun r w' => r = .returned (.bool true) ∧ Below w.heap.size w w' := by
  have S : St (fun _ => False) w w [CfgA true vs hs c, Sl true vcell 1 lv lhs, Sls true Event.cells 7 lhs lss, Tab] := ((((St.init _ w).share rfl rfl ht).share (A := Sls true Event.cells 7 lhs lss) rfl rfl h2b).share (A := Sl true vcell 1 lv lhs) rfl rfl h2).share rfl rfl h
  have hll : lhs.length = lss.length := h2b.1.1
  clear h h2 h2b ht
  obtain ⟨ad, cp, rfl, _⟩ := (S.sl 1 rfl).elim fun _ h => h.form
  rw [hll] at S ⊢
  have HLL := Lib.hid hll
  have HLN := Lib.hid hlens
  clear hll hlens
  obtain ⟨aP, cP, aL, cL, aS, cS, rfl, _, _⟩ := S.cfg 0 rfl
  have HMd := Lib.hid fun w F F2 h ht => made_calls [.slice aP c.programs.length cP, .slice aL c.lps.length cL, .slice aS c.starts.length cS, .int .i64 c.fin, .int .i64 c.fuel, .int .i64 c.fan] hs c w F F2 h hw hwb ht
  clear hw hwb
  go_enter Tryz.func3, Tryz.ntmps3
  go_wp2_with first | ((with_reducible apply wps_boxa (E := 26) S); (case hx => rfl); clear S; intro bx wz S) | ((with_reducible apply wps_boxa (E := 27) S); (case hx => rfl); clear S; intro bt wz S) | ((with_reducible apply wps_loada (T := 26) (k := 6) S 1); (case hx | hi => rfl); (case hk => exact Nat.le_of_ble_eq_true rfl); (case hT => decide +kernel))
  refine Calls.mono (HMd.out _ _ _ (S.get (i := 2) rfl).choose_spec (S.get (i := 5) rfl).choose_spec) ?_
  clear HMd
  rintro r wz ⟨pv, vs2, hs2, rfl, (⟨hm, rfl, T⟩ | ⟨hm, R, vs3, hs3, rfl, T⟩)⟩
  · replace S := ((S.join T rfl).cfgShare 0 rfl).pick [0, 1, 2, 3, 4, 5, 6] rfl
    repeat (first | simp only at S | simp only [pick] at S | simp only [nth] at S | simp only [List.set_cons_succ] at S | simp only [List.set_cons_zero] at S | simp only [List.setIfInBounds_toArray] at S | simp only [setAll] at S | simp only [List.cons_append] at S | simp only [List.nil_append] at S | simp only [List.append_nil] at S)
    clear T hm
    obtain ⟨aP2, cP2, aL2, cL2, aS2, cS2, rfl, _, _⟩ := S.cfg 0 rfl
    go_wp2_with first | ((with_reducible apply wps_alloca (E := 34) S); (case hz => exact Tryz.zeroValue34); clear S; intro b8 wz S) | ((with_reducible apply wps_storea (T := 34) S 0 (vs := [.slice aP2 c.programs.length cP2, .slice aL2 c.lps.length cL2, .slice aS2 c.starts.length cS2, .int .i64 c.fin, .int .i64 c.fuel, .int .i64 c.fan]) (m := 6)); (case hx | hy | hi | hm | h1 => rfl); (case hn => exact Nat.le_of_ble_eq_true rfl); (case hT => decide +kernel); clear S; intro wz S; simp only [List.set_cons_zero, List.set_cons_succ, setAll, List.setIfInBounds_toArray] at S) | (go_at_call 6; refine Calls.mono (awake16_calls _ _ (S.get (i := 7) rfl).choose_spec) ?_; rintro e wz ⟨rfl, hE⟩; replace S := S.ext (Keep.of_below hE); clear hE)
    go_ret
    exact ⟨rfl, S.below⟩
  replace S := (((S.join T rfl).modShare 0 rfl).cfgShare 1 rfl).pick [0, 1, 2, 3, 4, 5, 6, 7] rfl
  repeat (first | simp only at S | simp only [pick] at S | simp only [nth] at S | simp only [List.set_cons_succ] at S | simp only [List.set_cons_zero] at S | simp only [List.setIfInBounds_toArray] at S | simp only [setAll] at S | simp only [List.cons_append] at S | simp only [List.nil_append] at S | simp only [List.append_nil] at S)
  clear T
  obtain ⟨aP2, cP2, aL2, cL2, aS2, cS2, rfl, _, _⟩ := S.cfg 1 rfl
  have hfw : fewB c = true ∧ cfgE c = 0 := by unfold madeB at hm; rw [Bool.and_eq_true, decide_eq_true_eq] at hm; exact hm
  have HC := Lib.hid hfw.2
  have hcn : c.lps.length ≤ 32 := by have := (cfg_isfine hfw.2).sizes; unfold sizesOk at this; omega
  clear hm hfw
  by_cases h22 : lss.length ≤ 2
  case neg =>
    have f2 : decide ((2 : Int) < lss.length) = true := decide_eq_true (by omega)
    go_wp2_with first | ((with_reducible apply wps_alloca (E := 34) S); (case hz => exact Tryz.zeroValue34); clear S; intro b8 wz S) | ((with_reducible apply wps_storea (T := 34) S 0 (vs := [.slice aP2 c.programs.length cP2, .slice aL2 c.lps.length cL2, .slice aS2 c.starts.length cS2, .int .i64 c.fin, .int .i64 c.fuel, .int .i64 c.fan]) (m := 6)); (case hx | hy | hi | hm | h1 => rfl); (case hn => exact Nat.le_of_ble_eq_true rfl); (case hT => decide +kernel); clear S; intro wz S; simp only [List.set_cons_zero, List.set_cons_succ, setAll, List.setIfInBounds_toArray] at S) | (go_at_call 6; refine Calls.mono (awake16_calls _ _ (S.get (i := 8) rfl).choose_spec) ?_; rintro e wz ⟨rfl, hE⟩; replace S := S.ext (Keep.of_below hE); clear hE)
    go_ret
    exact ⟨rfl, S.below⟩
  have f2 : decide ((2 : Int) < lss.length) = false := decide_eq_false (by omega)
  go_upto_region 4 with first | ((with_reducible apply wps_alloca (E := 34) S); (case hz => exact Tryz.zeroValue34); clear S; intro b8 wz S) | ((with_reducible apply wps_storea (T := 34) S 0 (vs := [.slice aP2 c.programs.length cP2, .slice aL2 c.lps.length cL2, .slice aS2 c.starts.length cS2, .int .i64 c.fin, .int .i64 c.fuel, .int .i64 c.fan]) (m := 6)); (case hx | hy | hi | hm | h1 => rfl); (case hn => exact Nat.le_of_ble_eq_true rfl); (case hT => decide +kernel); clear S; intro wz S; simp only [List.set_cons_zero, List.set_cons_succ, setAll, List.setIfInBounds_toArray] at S)
  replace S := S.pick [1, 3, 6, 7, 8] rfl
  simp only [pick, nth] at S
  clear f2
  go_upto_region 5 with first | (go_at_call 7; refine Calls.mono (lnew_calls R vs3 hs3 c _ _ (S.get (i := 0) rfl).choose_spec hcn) ?_; rintro e wz ⟨X, rfl, T⟩; replace S := S.join T rfl; clear T; simp only [List.cons_append, List.nil_append] at S)
  have hnl : (newL c).ss.length = c.lps.length := by simp [newL]
  have hnl2 : (newL c).ss.length ≤ 65536 := by rw [hnl]; omega
  have HSt0 := Lib.hid fun (w : World) (F : Nat → Prop) (h : (logA X R (newL c)).at_ w F) => lstates_calls X R (newL c) w F h hnl2
  rw [hnl] at HSt0
  go_upto_region 8 with first | (go_at_call 8; refine Calls.mono (HSt0.out _ _ (S.get (i := 0) rfl).choose_spec) ?_; rintro e wz ⟨as0, cs0, rfl, T⟩; replace S := S.join T rfl; clear T; simp only [List.cons_append, List.nil_append] at S)
  clear hnl2 HSt0
  replace S := (((S.slsNil Event.cells 7).slsNil Event.cells 7).nil 54 BatV.cells 8)
  replace S := S.weak (i := 1) (A' := Sls true Event.cells 7 (([] : List BatV).map BatV.vi) (([] : List BatV).map fun x : BatV => x.b.ins)) rfl (fun e => by cases e) (fun F h => ⟨F, fun _ hb => hb, h⟩)
  simp only [List.set_cons_zero, List.set_cons_succ] at S
  replace S := S.weak (i := 2) (A' := Sls true Event.cells 7 (([] : List BatV).map BatV.vo) (([] : List BatV).map fun x : BatV => x.b.sent)) rfl (fun e => by cases e) (fun F h => ⟨F, fun _ hb => hb, h⟩)
  simp only [List.set_cons_zero, List.set_cons_succ] at S
  go_wp2_with first | ((with_reducible apply wps_loada (T := 52) (k := 4) S 0); (case hx | hi => rfl); (case hk => exact Nat.le_of_ble_eq_true rfl); (case hT => decide +kernel))
  go_loopw [12, 13] (fun dv i wr => CmRel1 X R vs3 hs3 c (.slice as0 c.lps.length cs0) bt t0 t1 (.slice ad lss.length cp) lhs lss w dv i wr) (fun _ i _ => lss.length - (intOf i).toNat)
  case atStart => exact ⟨0, newL c, [], Nat.zero_le _, rfl, Lib.hid rfl, Lib.hid hnl, Lib.hid (Int.le_refl _), Lib.hid (Nat.le_refl _), Lib.hid (fun b hb => by simp [newL] at hb), S⟩
  case round =>
    clear S hnl
    obtain ⟨j, G, dn, hj, rfl, HDN, HSS, HTM, HGL, HGZ, S⟩ := hrel
    obtain ⟨add, cdd, rfl, _⟩ := (S.ownsl bvcells 0 rfl).elim fun _ h => h.form
    by_cases hlt : j < lss.length
    · obtain ⟨l, hl⟩ : ∃ l, lss[j]? = some l := ⟨_, List.getElem?_eq_getElem hlt⟩
      obtain ⟨v, hv⟩ : ∃ v, lhs[j]? = some v := ⟨_, List.getElem?_eq_getElem (by rw [HLL.out]; exact hlt)⟩
      obtain ⟨tj, htj⟩ : ∃ tj : Int, (#[.int .i64 t0, .int .i64 t1] : Array Value)[j]? = some (.int .i64 tj) := by
        rcases (by omega : j = 0 ∨ j = 1) with rfl | rfl
        · exact ⟨t0, rfl⟩
        · exact ⟨t1, rfl⟩
      replace S := S.slsEl 8 rfl hv hl
      obtain ⟨ai, ci, rfl, _⟩ := (S.sl 0 rfl).elim fun _ h => h.form
      obtain ⟨R1, o1, rfl⟩ : ∃ R o, ad = some ⟨R, o, none⟩ := (S.sl 8 rfl).elim fun F h => h.head (by have := HLL.out; omega)
      have hlt2 : (j : Int) < lss.length := by omega
      have hlt3 : (j : Int) < 2 := by omega
      have hlj := HLN.out l (List.mem_of_getElem? hl)
      by_cases h40 : l.length ≤ 40
      case neg =>
        have f40 : decide ((40 : Int) < l.length) = true := decide_eq_true (by omega)
        clear htj
        have Hv := Lib.hid hv
        have Hl := Lib.hid hl
        clear hv hl
        go_wp2_with first | ((with_reducible apply wps_load_el S 8 (hj := Hv.out) (q := 0) (u := .slice ai l.length ci)); (case hx | hi => rfl); (case hn => omega); (case hu => rfl); (case hT => decide +kernel)) | (go_at_call 6; refine Calls.mono (awake16_calls _ _ (S.get (i := 10) rfl).choose_spec) ?_; rintro e wz ⟨rfl, hE⟩; replace S := S.ext (Keep.of_below hE); clear hE)
        go_ret
        exact ⟨rfl, S.below⟩
      have f40 : decide ((40 : Int) < l.length) = false := decide_eq_false (by omega)
      have HWr := Lib.hid fun (w : World) (F : Nat → Prop) (h : (Sl true Event.cells 7 (.slice ai l.length ci) l).at_ w F) => rwrong_calls c.lps.length G.time tj (.slice ai l.length ci) l w F h (by omega)
      have hG80 : G.done.length ≤ 80 := by have := HGL.out; omega
      obtain ⟨e0, he0⟩ : ∃ e, wrongL c.lps.length G.time tj l = e := ⟨_, rfl⟩
      rw [he0] at HWr
      have Hv := Lib.hid hv
      have Htj := Lib.hid htj
      clear hv htj
      by_cases hw : e0 = 0
      case neg =>
        as_aux_lemma =>
          have HCw : Hid (∀ (w : World) (F : Nat → Prop) (S0 : St F w w [logA X R G, Sl true Event.cells 7 (.slice ai l.length ci) l]), Calls Tryz.prog 12 #[.pointer (some ⟨X, 0, none⟩), .int .i64 tj, .slice ai l.length ci] w fun e w' => e = .returned (.tuple #[.slice none 0 0, .int .i64 e0]) ∧ St F w w' [logA X R G]) :=
            Lib.hid fun w F S0 => commit_wrong X R G tj _ l w F S0 (by omega) e0 (by rw [HSS.out]; exact he0) hw
          have f1 : (e0 != 0) = true := by simpa using hw
          have f3 : (e0 != e0) = false := by simp
          have f4 : (G.time != G.time) = false := by simp
          have f5 : ((G.done.length : Int) != (dn.length : Int)) = false := by rw [← HDN.out, List.length_map]; simp
          have hss : G.ss.length ≤ 65536 := by have := HSS.out; omega
          have HST := Lib.hid fun (w : World) (F : Nat → Prop) (h : (logA X R G).at_ w F) => lstates_calls X R G w F h hss
          have HSE := Lib.hid fun (v1 v2 : Value) (w : World) (F1 F2 : Nat → Prop) (h1 : (Sl true State.cells 4 v1 G.ss).at_ w F1) (h2 : (Sl true State.cells 4 v2 G.ss).at_ w F2) => stseq_calls v1 v2 G.ss w F1 F2 h1 h2 hss
          clear he0 hw hss hG80 hl
          go_upto_region 15 with first | ((with_reducible apply wps_load_el S 8 (hj := Hv.out) (q := 0) (u := .slice ai l.length ci)); (case hx | hi => rfl); (case hn => omega); (case hu => rfl); (case hT => decide +kernel)) | (go_at_call 9; refine Calls.mono (ltime_calls X R G _ _ (S.get (i := 5) rfl).choose_spec) ?_; rintro e wz ⟨rfl, hE⟩; replace S := S.ext (Keep.of_below hE); clear hE)
          go_upto_region 16 with first | ((with_reducible apply wps_loada (T := 52) (k := 4) S 0); (case hx | hi => rfl); (case hk => exact Nat.le_of_ble_eq_true rfl); (case hT => decide +kernel))
          (refine wp_region_w (soft := [0, 1, 2, 3, 4, 5, 6, 7, 8, 9, 10, 11]) S ?hm ?hB ?_); (case hm => kernel_rfl); (case hB => decide +kernel); clear S
          iterate 12
            (with_reducible apply softs_cons)
            (case hw =>
              (with_reducible apply soft_of); (case hi => rfl)
              intro T wz S
              simp only [List.cons_append, List.nil_append] at S
              go_wp2_with first | ((with_reducible apply wps_load_el S 8 (hj := Hv.out) (q := 0) (u := .slice ai l.length ci)); (case hx | hi => rfl); (case hn => omega); (case hu => rfl); (case hT => decide +kernel)) | ((with_reducible apply wps_load S 7 (hu := Htj.out)); (case hx | hi => rfl); (case hT => decide +kernel)) | (go_at_call 11; refine Calls.mono (lps_calls _ _ _ _ _ _ (S.get (i := 6) rfl).choose_spec) ?_; rintro e wz ⟨rfl, hE⟩; replace S := S.ext (Keep.of_below hE); clear hE) | (go_at_call 10; refine Calls.mono (HWr.out _ _ (S.get (i := 0) rfl).choose_spec) ?_; rintro e wz ⟨rfl, hE⟩; replace S := S.ext (Keep.of_below hE); clear hE) | ((with_reducible refine tot_done ?ht ?_); (case ht => kernel_rfl))
              exact ⟨rfl, S⟩)
            (case hs => exact ⟨_, rfl, by kernel_rfl⟩)
          refine softs_nil ?_
          (with_reducible apply W_done); (case hn => rfl); (case hr => decide +kernel)
          intro wz S
          repeat (first | simp only at S | simp only [pick] at S | simp only [nth] at S | simp only [List.set_cons_succ] at S | simp only [List.set_cons_zero] at S | simp only [List.setIfInBounds_toArray] at S | simp only [setAll] at S | simp only [List.cons_append] at S | simp only [List.nil_append] at S | simp only [List.append_nil] at S)
          replace S := S.pick [0, 1, 2, 3, 4, 6, 7, 8, 9, 10, 5] rfl
          simp only [pick, nth] at S
          go_upto_region 17 with first | ((with_reducible apply wps_loada (T := 52) (k := 4) S 0); (case hx | hi => rfl); (case hk => exact Nat.le_of_ble_eq_true rfl); (case hT => decide +kernel))
          (refine wp_region_wt (soft := [0, 1, 2, 3, 4, 5, 6, 7]) (L := [_, _, _, _, _, _, _, _, _, _]) (T := [_]) S ?hm ?hB ?_); (case hm => kernel_rfl); (case hB => decide +kernel); clear S
          iterate 8
            (with_reducible apply softs_cons)
            (case hw =>
              (with_reducible apply soft_of); (case hi => rfl)
              intro T wz S
              simp only [List.cons_append, List.nil_append] at S
              go_wp2_with first | ((with_reducible apply wps_load_el S 7 (hj := Hv.out) (q := 0) (u := .slice ai l.length ci)); (case hx | hi => rfl); (case hn => omega); (case hu => rfl); (case hT => decide +kernel)) | ((with_reducible apply wps_load S 6 (hu := Htj.out)); (case hx | hi => rfl); (case hT => decide +kernel)) | ((with_reducible refine tot_done ?ht ?_); (case ht => kernel_rfl))
              exact ⟨rfl, S⟩)
            (case hs => exact ⟨_, rfl, by kernel_rfl⟩)
          refine softs_nil ?_
          (with_reducible apply W_hard1 (i := 8)); (case hn => rfl); (case hr => decide +kernel)
          intro wz S
          (with_reducible apply hard_of); (case hi => rfl)
          simp only [List.cons_append, List.nil_append] at S
          go_wp2_with first | (go_at_call 12; obtain ⟨Fz, hF, hBk⟩ := S.lend [10] [0] [0, 1, 2, 3, 4, 5, 6, 7, 8, 9] rfl rfl rfl; simp only [List.cons_append, List.nil_append, pick, nth] at hF hBk; refine Calls.mono (HCw.out _ _ hF) ?_; rintro e wz ⟨rfl, T⟩; replace S := (hBk _ _ T rfl).pick [1, 2, 3, 4, 5, 6, 7, 8, 9, 10, 0] rfl; clear hBk hF T; simp only [List.cons_append, List.nil_append, pick, nth] at S) | ((with_reducible refine tot_done ?ht ?_); (case ht => kernel_rfl))
          refine ⟨_, S, ?_⟩
          clear S
          (refine W_mid (f := 0) (soft := [9, 10, 11, 12, 13]) rfl ?hB ?_); (case hB => decide +kernel)
          iterate 5
            (with_reducible apply softs_cons)
            (case hw =>
              (with_reducible apply soft_of); (case hi => rfl)
              intro T wz S
              simp only [List.cons_append, List.nil_append] at S
              go_wp2_with first | ((with_reducible refine tot_done ?ht ?_); (case ht => kernel_rfl))
              exact ⟨rfl, S⟩)
            (case hs => exact ⟨_, rfl, by kernel_rfl⟩)
          refine softs_nil ?_
          (with_reducible apply W_done); (case hn => rfl); (case hr => decide +kernel)
          intro wz S
          repeat (first | simp only at S | simp only [pick] at S | simp only [nth] at S | simp only [List.set_cons_succ] at S | simp only [List.set_cons_zero] at S | simp only [List.setIfInBounds_toArray] at S | simp only [setAll] at S | simp only [List.cons_append] at S | simp only [List.nil_append] at S | simp only [List.append_nil] at S)
          go_wp2_with first | (go_at_call 9; refine Calls.mono (ltime_calls X R G _ _ (S.get (i := 10) rfl).choose_spec) ?_; rintro e wz ⟨rfl, hE⟩; replace S := S.ext (Keep.of_below hE); clear hE) | (go_at_call 8; refine Calls.mono (HST.out _ _ (S.get (i := 10) rfl).choose_spec) ?_; rintro e wz ⟨adg, cg, rfl, T⟩; replace S := S.join T rfl; clear T; simp only [List.cons_append, List.nil_append] at S) | (go_at_call 13; refine Calls.mono (HSE.out _ _ _ _ _ (own_sl (sh := true) sacells (S.get (i := 0) rfl).choose_spec) (own_sl (sh := true) sacells (S.get (i := 5) rfl).choose_spec)) ?_; rintro e wz ⟨rfl, hE⟩; replace S := S.ext (Keep.of_below hE); clear hE) | (go_at_call 14; refine Calls.mono (llen_calls X R G _ _ (S.get (i := 11) rfl).choose_spec) ?_; rintro e wz ⟨rfl, hE⟩; replace S := S.ext (Keep.of_below hE); clear hE)
          go_roundw
          case rel => exact ⟨j + 1, G, dn, by omega, by go_num, HDN, HSS, HTM, Lib.hid (by have := HGL.out; omega), HGZ, S.pick [2, 3, 4, 5, 11, 6, 7, 8, 9, 10] rfl⟩
          case measure => simp [intOf]; omega
      case pos =>
        as_aux_lemma =>
          subst hw
          have hf := wrongL_fine.1 he0
          have f3 : ((0 : Int) != 0) = false := by decide
          have HCm := Lib.hid fun (w : World) (F : Nat → Prop) (S0 : St F w w [logA X R G, Sl true Event.cells 7 (.slice ai l.length ci) l, ModA true 84 R vs3 hs3 c, Tab]) => commit_calls X R vs3 hs3 c G tj (.slice ai l.length ci) l w F S0 HC.out (by omega) HSS.out HTM.out (by omega) hf
          have HCB := Lib.hid (com_b HC.out hf HTM.out G.ss)
          have HTJ : Hid (0 ≤ tj) := Lib.hid (by have := hf.ord; have := HTM.out; omega)
          obtain ⟨G2, HG2⟩ : ∃ G2, Hid (comL c G tj l = G2) := ⟨_, rfl⟩
          obtain ⟨bs, HBS⟩ : ∃ bs, Hid ((timesL c (sortT l) G.ss).2 = bs) := ⟨_, rfl⟩
          have HG2s : Hid ((timesL c (sortT l) G.ss).1 = G2.ss) := Lib.hid (by rw [← HG2.out]; rfl)
          have HG2d : Hid (G2.done = G.done ++ bs) := Lib.hid (by rw [← HG2.out, ← HBS.out]; rfl)
          have HG2t : Hid (G2.time = tj) := Lib.hid (by rw [← HG2.out]; rfl)
          rw [HG2.out, HBS.out] at HCm
          rw [HBS.out, HG2s.out] at HCB
          clear HG2 HBS HG2s hf he0 hG80 hl
          go_upto_region 15 with first | ((with_reducible apply wps_load_el S 8 (hj := Hv.out) (q := 0) (u := .slice ai l.length ci)); (case hx | hi => rfl); (case hn => omega); (case hu => rfl); (case hT => decide +kernel)) | (go_at_call 9; refine Calls.mono (ltime_calls X R G _ _ (S.get (i := 5) rfl).choose_spec) ?_; rintro e wz ⟨rfl, hE⟩; replace S := S.ext (Keep.of_below hE); clear hE)
          go_upto_region 16 with first | ((with_reducible apply wps_loada (T := 52) (k := 4) S 0); (case hx | hi => rfl); (case hk => exact Nat.le_of_ble_eq_true rfl); (case hT => decide +kernel))
          (refine wp_region_w (soft := [0, 1, 2, 3, 4, 5, 6, 7, 8, 9, 10, 11]) S ?hm ?hB ?_); (case hm => kernel_rfl); (case hB => decide +kernel); clear S
          iterate 12
            (with_reducible apply softs_cons)
            (case hw =>
              (with_reducible apply soft_of); (case hi => rfl)
              intro T wz S
              simp only [List.cons_append, List.nil_append] at S
              go_wp2_with first | ((with_reducible apply wps_load_el S 8 (hj := Hv.out) (q := 0) (u := .slice ai l.length ci)); (case hx | hi => rfl); (case hn => omega); (case hu => rfl); (case hT => decide +kernel)) | ((with_reducible apply wps_load S 7 (hu := Htj.out)); (case hx | hi => rfl); (case hT => decide +kernel)) | (go_at_call 11; refine Calls.mono (lps_calls _ _ _ _ _ _ (S.get (i := 6) rfl).choose_spec) ?_; rintro e wz ⟨rfl, hE⟩; replace S := S.ext (Keep.of_below hE); clear hE) | (go_at_call 10; refine Calls.mono (HWr.out _ _ (S.get (i := 0) rfl).choose_spec) ?_; rintro e wz ⟨rfl, hE⟩; replace S := S.ext (Keep.of_below hE); clear hE) | ((with_reducible refine tot_done ?ht ?_); (case ht => kernel_rfl))
              exact ⟨rfl, S⟩)
            (case hs => exact ⟨_, rfl, by kernel_rfl⟩)
          refine softs_nil ?_
          (with_reducible apply W_done); (case hn => rfl); (case hr => decide +kernel)
          intro wz S
          repeat (first | simp only at S | simp only [pick] at S | simp only [nth] at S | simp only [List.set_cons_succ] at S | simp only [List.set_cons_zero] at S | simp only [List.setIfInBounds_toArray] at S | simp only [setAll] at S | simp only [List.cons_append] at S | simp only [List.nil_append] at S | simp only [List.append_nil] at S)
          replace S := S.pick [0, 1, 2, 3, 4, 6, 7, 8, 9, 10, 5] rfl
          simp only [pick, nth] at S
          go_upto_region 17 with first | ((with_reducible apply wps_loada (T := 52) (k := 4) S 0); (case hx | hi => rfl); (case hk => exact Nat.le_of_ble_eq_true rfl); (case hT => decide +kernel))
          (refine wp_region_wt (soft := [0, 1, 2, 3, 4, 5, 6, 7]) (L := [_, _, _, _, _, _, _, _, _, _]) (T := [_]) S ?hm ?hB ?_); (case hm => kernel_rfl); (case hB => decide +kernel); clear S
          iterate 8
            (with_reducible apply softs_cons)
            (case hw =>
              (with_reducible apply soft_of); (case hi => rfl)
              intro T wz S
              simp only [List.cons_append, List.nil_append] at S
              go_wp2_with first | ((with_reducible apply wps_load_el S 7 (hj := Hv.out) (q := 0) (u := .slice ai l.length ci)); (case hx | hi => rfl); (case hn => omega); (case hu => rfl); (case hT => decide +kernel)) | ((with_reducible apply wps_load S 6 (hu := Htj.out)); (case hx | hi => rfl); (case hT => decide +kernel)) | ((with_reducible refine tot_done ?ht ?_); (case ht => kernel_rfl))
              exact ⟨rfl, S⟩)
            (case hs => exact ⟨_, rfl, by kernel_rfl⟩)
          refine softs_nil ?_
          (with_reducible apply W_hard1 (i := 8)); (case hn => rfl); (case hr => decide +kernel)
          intro wz S
          (with_reducible apply hard_of); (case hi => rfl)
          simp only [List.cons_append, List.nil_append] at S
          go_wp2_with first | (go_at_call 12; obtain ⟨Fz, hF, hBk⟩ := S.lend [10] [0, 5, 9] [0, 1, 2, 3, 4, 5, 6, 7, 8, 9] rfl rfl rfl; simp only [List.cons_append, List.nil_append, pick, nth] at hF hBk; refine Calls.mono (HCm.out _ _ hF) ?_; rintro e wz ⟨ab, cb, lb, rfl, hlb, T⟩; (have hq1 : bs.length = lb.length := (by rw [← hlb, List.length_map])); rw [hq1] at T ⊢; clear hq1; have HLB := Lib.hid hlb; clear hlb; replace S := (hBk _ _ T rfl).pick [3, 2, 1, 4, 5, 6, 7, 8, 9, 10, 11, 12, 13, 0] rfl; clear hBk hF T; simp only [List.cons_append, List.nil_append, pick, nth] at S) | ((with_reducible refine tot_done ?ht ?_); (case ht => kernel_rfl))
          refine ⟨_, S.pick [3, 4, 5, 6, 7, 8, 9, 10, 11, 12, 13, 2, 1, 0] rfl, ?_⟩
          clear S
          (refine W_mid (f := 0) (soft := [9, 10, 11, 12, 13]) rfl ?hB ?_); (case hB => decide +kernel)
          iterate 5
            (with_reducible apply softs_cons)
            (case hw =>
              (with_reducible apply soft_of); (case hi => rfl)
              intro T wz S
              simp only [List.cons_append, List.nil_append] at S
              go_wp2_with first | ((with_reducible refine tot_done ?ht ?_); (case ht => kernel_rfl))
              exact ⟨rfl, S⟩)
            (case hs => exact ⟨_, rfl, by kernel_rfl⟩)
          refine softs_nil ?_
          (with_reducible apply W_done); (case hn => rfl); (case hr => decide +kernel)
          intro wz S
          repeat (first | simp only at S | simp only [pick] at S | simp only [nth] at S | simp only [List.set_cons_succ] at S | simp only [List.set_cons_zero] at S | simp only [List.setIfInBounds_toArray] at S | simp only [setAll] at S | simp only [List.cons_append] at S | simp only [List.nil_append] at S | simp only [List.append_nil] at S)
          clear HWr HCm
          replace S := S.freeze true 11 bvcells rfl
          simp only [List.set_cons_zero, List.set_cons_succ] at S
          replace S := S.weak (i := 12) (A' := Sls true Event.cells 7 (lb.map BatV.vi) (lb.map fun x : BatV => x.b.ins)) rfl (fun e => by cases e) (fun F h => ⟨F, fun _ hb => hb, h⟩)
          simp only [List.set_cons_zero, List.set_cons_succ] at S
          replace S := S.weak (i := 13) (A' := Sls true Event.cells 7 (lb.map BatV.vo) (lb.map fun x : BatV => x.b.sent)) rfl (fun e => by cases e) (fun F h => ⟨F, fun _ hb => hb, h⟩)
          simp only [List.set_cons_zero, List.set_cons_succ] at S
          have hlb40 : lb.length ≤ 40 := by have h1 := HCB.out.num; rw [← HLB.out, List.length_map] at h1; omega
          replace S := S.nil 78 Event.cells 7
          replace S := S.pick [0, 5, 12, 13, 14, 6, 10, 7, 8, 9, 11, 1, 2, 3, 4] rfl
          simp only [pick, nth] at S
          go_upto_region 24 with first | ((with_reducible apply wps_loada (T := 52) (k := 4) S 0); (case hx | hi => rfl); (case hk => exact Nat.le_of_ble_eq_true rfl); (case hT => decide +kernel))
          go_loopw [18, 19] (fun av i wr => CmRel2 [ModA true 84 R vs3 hs3 c, Tab, Blk false bt #[.int .i64 t0, .int .i64 t1] 27, Sl true vcell 1 (.slice (some ⟨R1, o1, none⟩) lss.length cp) lhs, Sls true Event.cells 7 lhs lss] [logA X R G2, Sl true Event.cells 7 (.slice ai l.length ci) l, Mem.Own 54 BatV.cells 8 (.slice add dn.length cdd) dn, Sls true Event.cells 7 (dn.map BatV.vi) (dn.map fun x : BatV => x.b.ins), Sls true Event.cells 7 (dn.map BatV.vo) (dn.map fun x : BatV => x.b.sent)] (.slice as0 c.lps.length cs0) (.slice ab lb.length cb) G.ss lb bs w av i wr) (fun _ i _ => lb.length + 1 - (intOf i).toNat)
          case atStart => exact ⟨0, G.ss, [], Nat.zero_le _, .inl ⟨rfl, rfl⟩, Lib.hid rfl, Lib.hid rfl, by simp, S⟩
          case round =>
            clear S
            obtain ⟨k, sk, al, hk, hki, HSK, HAL, hal, S⟩ := hrel
            simp only [List.cons_append, List.nil_append] at S
            obtain ⟨aa, ca, rfl, _⟩ := (S.ownsl ecells 0 rfl).elim fun _ h => h.form
            by_cases hlk : k < lb.length
            · obtain ⟨x, hx⟩ : ∃ x, lb[k]? = some x := ⟨_, List.getElem?_eq_getElem hlk⟩
              have hb : bs[k]? = some x.b := by rw [← HLB.out, List.getElem?_map, hx]; rfl
              have hord : ∀ (kk : Nat) (y : BatV), k = kk + 1 → lb[kk]? = some y → BefE y.b x.b := fun kk y e hy => by
                subst e; exact HCB.out.ord kk y.b x.b (by rw [← HLB.out, List.getElem?_map, hy]; rfl) hb
              have HVI0 : (lb.map BatV.vi)[k]? = some x.vi := by rw [List.getElem?_map, hx]; rfl
              have HVB0 : (lb.map fun x : BatV => x.b.ins)[k]? = some x.b.ins := by rw [List.getElem?_map, hx]; rfl
              have HVO0 : (lb.map BatV.vo)[k]? = some x.vo := by rw [List.getElem?_map, hx]; rfl
              have HVS0 : (lb.map fun x : BatV => x.b.sent)[k]? = some x.b.sent := by rw [List.getElem?_map, hx]; rfl
              obtain ⟨g1, g2, hru, gi, gs, gat⟩ := HCB.out.each k x.b hb
              have hset := setst_step hb G.ss
              have hfl := flat_step hb
              clear hb
              obtain ⟨⟨a, lp, ins, thn, sent⟩, bi, di, ao, co⟩ := x
              simp only at g1 g2 hru gi gs gat hset hfl hord HVB0 HVS0
              obtain ⟨n0, rfl⟩ : ∃ n : Nat, lp = n := ⟨lp.toNat, by omega⟩
              have hskl : sk.length = c.lps.length := by rw [← HSK.out, setst_len]; exact HSS.out
              obtain ⟨s0, hs0⟩ : ∃ s, sk[n0]? = some s := ⟨_, List.getElem?_eq_getElem (by omega)⟩
              have hst0 : stAt sk (n0 : Int) = s0 := by unfold stAt; rw [Int.toNat_natCast, hs0]; rfl
              rw [HSK.out, hst0] at hru
              have HRR := Lib.hid fun (w : World) (F F2 F3 : Nat → Prop) (h : (ModA true 84 R vs3 hs3 c).at_ w F) (h2 : (Sl true Event.cells 7 (.slice bi ins.length di) ins).at_ w F2) (ht : Tab.at_ w F3) => rrun_calls R vs3 hs3 c n0 s0 (.slice bi ins.length di) ins w F F2 F3 h h2 ht (by omega) HC.out (fun x hx => by have := gat x hx; omega) thn sent hru
              have HN : Hid ((!ceqs thn.cells thn.cells) = false) := Lib.hid (by rw [state_ceqsC]; simp)
              have HEv : Hid (∀ (v1 v2 : Value) (w : World) (F1 F2 : Nat → Prop) (h1 : (Sl true Event.cells 7 v1 sent).at_ w F1) (h2 : (Sl true Event.cells 7 v2 sent).at_ w F2), Calls Tryz.prog 16 #[v1, v2] w fun r w' => r = .returned (.bool true) ∧ Below w.heap.size w w') := Lib.hid fun v1 v2 w F1 F2 h1 h2 =>
                (evseq_callsT _ _ _ _ w F1 F2 h1 h2 (by omega) (by omega)).mono fun r w' ⟨h, hb2⟩ => ⟨by rw [h]; simp, hb2⟩
              have HVI : Hid ((lb.map BatV.vi)[k]? = some (.slice bi ins.length di)) := Lib.hid HVI0
              have HVB := Lib.hid HVB0
              have HVO : Hid ((lb.map BatV.vo)[k]? = some (.slice ao sent.length co)) := Lib.hid HVO0
              have HVS := Lib.hid HVS0
              have HSK2 : Hid ((bs.take (k + 1)).foldl setst G.ss = sk.set n0 thn) := Lib.hid (by rw [hset, HSK.out, Int.toNat_natCast])
              have HAL2 : Hid ((bs.take (k + 1)).flatMap (·.ins) = al ++ ins) := Lib.hid (by rw [hfl, HAL.out])
              have hal2 : (al ++ ins).length ≤ 40 := by
                have h1 := flat_take bs (k + 1)
                have h2 := HCB.out.perm.length_eq
                rw [HAL2.out] at h1
                omega
              have hal3 : al.length + ins.length ≤ 40 := by rw [List.length_append] at hal2; exact hal2
              have hins : ins.length ≤ 40 := by omega
              obtain ⟨Rs, cs', e⟩ := own_hd 1 S rfl (by omega)
              simp only [Value.slice.injEq] at e
              obtain ⟨rfl, hq, rfl⟩ := e
              obtain ⟨Rb, ob, rfl⟩ : ∃ R o, ab = some ⟨R, o, none⟩ := (S.sl 2 rfl).elim fun F h => h.head (by omega)
              have fl1 : decide ((n0 : Int) < 0) = false := decide_eq_false (by omega)
              have fl2 : decide ((c.lps.length : Int) ≤ n0) = false := decide_eq_false (by omega)
              have fl3 : (n0 : Int) < c.lps.length := by omega
              have fl4 : decide (c.lps.length ≤ n0) = false := decide_eq_false (by omega)
              clear hq hskl hst0 hru hset hfl gs gat g1 g2 gi HVI0 HVB0 HVO0 HVS0
              have Hs0 := Lib.hid hs0
              clear hs0
              rcases hki with ⟨rfl, rfl⟩ | ⟨kk, rfl, rfl⟩
              · have f0 : decide ((0 : Int) < 0) = false := by decide
                have hlk2 : (0 : Int) < lb.length := by omega
                clear hord
                have Hx := Lib.hid hx
                clear hx
                as_aux_lemma =>
                  go_wp2_with first | ((with_reducible apply wps_loada (T := 52) (k := 4) S 0); (case hx | hi => rfl); (case hk => exact Nat.le_of_ble_eq_true rfl); (case hT => decide +kernel))
                  (refine wp_region_w (soft := [0, 1, 2, 3, 4, 5, 6, 7, 8, 9, 10, 11, 12, 13, 14, 15, 16, 17, 18, 19, 20, 21, 22, 23, 24, 25, 26, 27, 28, 29, 30, 31, 32, 33, 34, 35, 36, 37, 38, 39, 40, 41, 42, 43, 44, 45, 46, 47, 48, 49, 50, 51, 52, 53, 54, 55, 56, 57, 58, 59, 60, 61]) S ?hm ?hB ?_); (case hm => kernel_rfl); (case hB => decide +kernel); clear S
                  iterate 62
                    (with_reducible apply softs_cons)
                    (case hw =>
                      (with_reducible apply soft_of); (case hi => rfl)
                      intro T wz S
                      simp only [List.cons_append, List.nil_append] at S
                      go_wp2_with first | ((with_reducible apply wps_load_el S 2 (hj := Hx.out) (q := 1) (u := .int .i64 (n0 : Int))); (case hx | hi => rfl); (case hn => omega); (case hu => rfl); (case hT => decide +kernel)) | ((with_reducible refine tot_done ?ht ?_); (case ht => kernel_rfl))
                      exact ⟨rfl, S⟩)
                    (case hs => exact ⟨_, rfl, by kernel_rfl⟩)
                  refine softs_nil ?_
                  (with_reducible apply W_done); (case hn => rfl); (case hr => decide +kernel)
                  intro wz S
                  simp only [List.append_nil] at S
                  go_wp2_with first | ((with_reducible apply wps_loada (T := 52) (k := 4) S 0); (case hx | hi => rfl); (case hk => exact Nat.le_of_ble_eq_true rfl); (case hT => decide +kernel))
                  (refine wp_region_w (soft := [0, 1, 2, 3, 4, 5, 6, 7, 8, 9, 10, 11, 12, 13, 14, 15, 16, 17, 18, 19]) S ?hm ?hB ?_); (case hm => kernel_rfl); (case hB => decide +kernel); clear S
                  iterate 20
                    (with_reducible apply softs_cons)
                    (case hw =>
                      (with_reducible apply soft_of); (case hi => rfl)
                      intro T wz S
                      simp only [List.cons_append, List.nil_append] at S
                      go_wp2_with first | ((with_reducible apply wps_load_el S 2 (hj := Hx.out) (q := 1) (u := .int .i64 (n0 : Int))); (case hx | hi => rfl); (case hn => omega); (case hu => rfl); (case hT => decide +kernel)) | ((with_reducible apply wps_load_el S 2 (hj := Hx.out) (q := 2) (u := .slice bi ins.length di)); (case hx | hi => rfl); (case hn => omega); (case hu => rfl); (case hT => decide +kernel)) | ((with_reducible apply wps_loada_own sacells S 1 (hj := Hs0.out) (q := 0) (vs := [.int .i64 s0.n0, .int .i64 s0.n1, .int .i64 s0.n2, .int .i64 s0.n3]) (m := 4)); (case hx | hi => rfl); (case hn => omega); (case hm | hv => rfl); (case hT => decide +kernel)) | ((with_reducible refine tot_done ?ht ?_); (case ht => kernel_rfl))
                      exact ⟨rfl, S⟩)
                    (case hs => exact ⟨_, rfl, by kernel_rfl⟩)
                  refine softs_nil ?_
                  (with_reducible apply W_hard2 (i := 20) (i' := 24)); (case hn => rfl); (case hr => decide +kernel)
                  focus
                    intro wz S
                    (with_reducible apply hard_of); (case hi => rfl)
                    simp only [List.cons_append, List.nil_append] at S
                    go_wp2_with first | (go_at_call 15; have hcz := HRR.out _ _ _ _ (S.get (i := 5) rfl).choose_spec (sls_elC (S.get (i := 3) rfl).choose_spec HVI.out HVB.out) (S.get (i := 6) rfl).choose_spec; (with_reducible refine Calls.mono hcz ?_); clear hcz; rintro e wz ⟨adr, cdr, rfl, T⟩; replace S := S.join T rfl; clear T; simp only [List.cons_append, List.nil_append] at S) | ((with_reducible refine tot_done ?ht ?_); (case ht => kernel_rfl))
                    refine ⟨_, S.pick [1, 2, 3, 4, 5, 6, 7, 8, 9, 10, 11, 12, 13, 14, 15, 0] rfl, ?_⟩
                    clear S
                    (refine W_mid (f := 3) (soft := [21, 22, 23]) rfl ?hB ?_); (case hB => decide +kernel)
                    iterate 3
                      (with_reducible apply softs_cons)
                      (case hw =>
                        (with_reducible apply soft_of); (case hi => rfl)
                        intro T wz S
                        simp only [List.cons_append, List.nil_append] at S
                        go_wp2_with first | ((with_reducible refine tot_done ?ht ?_); (case ht => kernel_rfl))
                        exact ⟨rfl, S⟩)
                      (case hs => exact ⟨_, rfl, by kernel_rfl⟩)
                    refine softs_nil ?_
                    (with_reducible apply W_hard1 (i := 24)); (case hn => rfl); (case hr => decide +kernel)
                    intro wz S
                    (with_reducible apply hard_of); (case hi => rfl)
                    simp only [List.cons_append, List.nil_append] at S
                    go_wp2_with first | ((with_reducible apply wps_alloca (E := 52) S); (case hz => exact Tryz.zeroValue52); clear S; intro b20 wz S) | ((with_reducible refine tot_done ?ht ?_); (case ht => kernel_rfl))
                    refine ⟨_, S.pick [1, 2, 3, 4, 5, 6, 7, 8, 9, 10, 11, 12, 13, 14, 15, 16, 0] rfl, ?_⟩
                    clear S
                    (with_reducible apply W_hard1 (i := 25)); (case hn => rfl); (case hr => decide +kernel)
                    intro wz S
                    (with_reducible apply hard_of); (case hi => rfl)
                    simp only [List.cons_append, List.nil_append] at S
                    go_wp2_with first | ((with_reducible apply wps_storea (T := 52) S 16 (vs := [.int .i64 thn.n0, .int .i64 thn.n1, .int .i64 thn.n2, .int .i64 thn.n3]) (m := 4)); (case hx | hy | hi | hm | h1 => rfl); (case hn => exact Nat.le_of_ble_eq_true rfl); (case hT => decide +kernel); clear S; intro wz S; simp only [List.set_cons_zero, List.set_cons_succ, setAll, List.setIfInBounds_toArray] at S) | ((with_reducible refine tot_done ?ht ?_); (case ht => kernel_rfl))
                    refine ⟨_, S, ?_⟩
                    clear S
                    (refine W_mid (f := 0) (soft := [26]) rfl ?hB ?_); (case hB => decide +kernel)
                    iterate 1
                      (with_reducible apply softs_cons)
                      (case hw =>
                        (with_reducible apply soft_of); (case hi => rfl)
                        intro T wz S
                        simp only [List.cons_append, List.nil_append] at S
                        go_wp2_with first | ((with_reducible refine tot_done ?ht ?_); (case ht => kernel_rfl))
                        exact ⟨rfl, S⟩)
                      (case hs => exact ⟨_, rfl, by kernel_rfl⟩)
                    refine softs_nil ?_
                    (with_reducible apply W_done); (case hn => rfl); (case hr => decide +kernel)
                    intro wz S
                    repeat (first | simp only at S | simp only [pick] at S | simp only [nth] at S | simp only [List.set_cons_succ] at S | simp only [List.set_cons_zero] at S | simp only [List.setIfInBounds_toArray] at S | simp only [setAll] at S | simp only [List.cons_append] at S | simp only [List.nil_append] at S | simp only [List.append_nil] at S)
                  rotate_left 1
                  focus
                    intro wz S
                    (with_reducible apply hard_of); (case hi => rfl)
                    simp only [List.cons_append, List.nil_append] at S
                    go_wp2_with first | ((with_reducible apply wps_alloca (E := 52) S); (case hz => exact Tryz.zeroValue52); clear S; intro b20 wz S) | ((with_reducible refine tot_done ?ht ?_); (case ht => kernel_rfl))
                    refine ⟨_, S.pick [1, 2, 3, 4, 5, 6, 7, 8, 9, 10, 11, 12, 13, 14, 15, 0] rfl, ?_⟩
                    clear S
                    (with_reducible apply W_hard1 (i := 20)); (case hn => rfl); (case hr => decide +kernel)
                    intro wz S
                    (with_reducible apply hard_of); (case hi => rfl)
                    simp only [List.cons_append, List.nil_append] at S
                    go_wp2_with first | (go_at_call 15; have hcz := HRR.out _ _ _ _ (S.get (i := 5) rfl).choose_spec (sls_elC (S.get (i := 3) rfl).choose_spec HVI.out HVB.out) (S.get (i := 6) rfl).choose_spec; (with_reducible refine Calls.mono hcz ?_); clear hcz; rintro e wz ⟨adr, cdr, rfl, T⟩; replace S := S.join T rfl; clear T; simp only [List.cons_append, List.nil_append] at S) | ((with_reducible refine tot_done ?ht ?_); (case ht => kernel_rfl))
                    refine ⟨_, S.pick [1, 2, 3, 4, 5, 6, 7, 8, 9, 10, 11, 12, 13, 14, 15, 0, 16] rfl, ?_⟩
                    clear S
                    (refine W_mid (f := 2) (soft := [21, 22, 23]) rfl ?hB ?_); (case hB => decide +kernel)
                    iterate 3
                      (with_reducible apply softs_cons)
                      (case hw =>
                        (with_reducible apply soft_of); (case hi => rfl)
                        intro T wz S
                        simp only [List.cons_append, List.nil_append] at S
                        go_wp2_with first | ((with_reducible refine tot_done ?ht ?_); (case ht => kernel_rfl))
                        exact ⟨rfl, S⟩)
                      (case hs => exact ⟨_, rfl, by kernel_rfl⟩)
                    refine softs_nil ?_
                    (with_reducible apply W_hard1 (i := 25)); (case hn => rfl); (case hr => decide +kernel)
                    intro wz S
                    (with_reducible apply hard_of); (case hi => rfl)
                    simp only [List.cons_append, List.nil_append] at S
                    go_wp2_with first | ((with_reducible apply wps_storea (T := 52) S 16 (vs := [.int .i64 thn.n0, .int .i64 thn.n1, .int .i64 thn.n2, .int .i64 thn.n3]) (m := 4)); (case hx | hy | hi | hm | h1 => rfl); (case hn => exact Nat.le_of_ble_eq_true rfl); (case hT => decide +kernel); clear S; intro wz S; simp only [List.set_cons_zero, List.set_cons_succ, setAll, List.setIfInBounds_toArray] at S) | ((with_reducible refine tot_done ?ht ?_); (case ht => kernel_rfl))
                    refine ⟨_, S, ?_⟩
                    clear S
                    (refine W_mid (f := 0) (soft := [26]) rfl ?hB ?_); (case hB => decide +kernel)
                    iterate 1
                      (with_reducible apply softs_cons)
                      (case hw =>
                        (with_reducible apply soft_of); (case hi => rfl)
                        intro T wz S
                        simp only [List.cons_append, List.nil_append] at S
                        go_wp2_with first | ((with_reducible refine tot_done ?ht ?_); (case ht => kernel_rfl))
                        exact ⟨rfl, S⟩)
                      (case hs => exact ⟨_, rfl, by kernel_rfl⟩)
                    refine softs_nil ?_
                    (with_reducible apply W_done); (case hn => rfl); (case hr => decide +kernel)
                    intro wz S
                    repeat (first | simp only at S | simp only [pick] at S | simp only [nth] at S | simp only [List.set_cons_succ] at S | simp only [List.set_cons_zero] at S | simp only [List.setIfInBounds_toArray] at S | simp only [setAll] at S | simp only [List.cons_append] at S | simp only [List.nil_append] at S | simp only [List.append_nil] at S)
                  all_goals
                    as_aux_lemma =>
                      go_wp2_with first | ((with_reducible apply wps_loada (T := 52) (k := 4) S 0); (case hx | hi => rfl); (case hk => exact Nat.le_of_ble_eq_true rfl); (case hT => decide +kernel))
                      (refine wp_region_w (soft := [0, 1, 2, 3, 4, 5, 6, 7, 8, 9, 10, 11, 12, 13, 14, 15, 16]) S ?hm ?hB ?_); (case hm => kernel_rfl); (case hB => decide +kernel); clear S
                      iterate 17
                        (with_reducible apply softs_cons)
                        (case hw =>
                          (with_reducible apply soft_of); (case hi => rfl)
                          intro T wz S
                          simp only [List.cons_append, List.nil_append] at S
                          go_wp2_with first | ((with_reducible apply wps_load_el S 2 (hj := Hx.out) (q := 7) (u := .slice ao sent.length co)); (case hx | hi => rfl); (case hn => omega); (case hu => rfl); (case hT => decide +kernel)) | ((with_reducible apply wps_loada_el S 2 (hj := Hx.out) (q := 3) (vs := [.int .i64 thn.n0, .int .i64 thn.n1, .int .i64 thn.n2, .int .i64 thn.n3]) (m := 4)); (case hx | hi => rfl); (case hn => omega); (case hm | hv => rfl); (case hT => decide +kernel)) | ((with_reducible apply wps_loada (T := 52) (k := 4) S 16); (case hx | hi => rfl); (case hk => exact Nat.le_of_ble_eq_true rfl); (case hT => decide +kernel)) | ((with_reducible apply wpList_neq_agg (t := 52) (ks := [.int .i64, .int .i64, .int .i64, .int .i64]) (b := _)); (case hx | hy => rfl); (case hl | ha | hg => kernel_rfl); (case hfx | hfy => rfl); (case hb => exact HN.out)) | (go_at_call 16; have hcz := HEv.out _ _ _ _ _ (own_sl (sh := true) ecells (S.get (i := 15) rfl).choose_spec) (sls_elC (S.get (i := 4) rfl).choose_spec HVO.out HVS.out); (with_reducible refine Calls.mono hcz ?_); clear hcz; rintro e wz ⟨rfl, hE⟩; replace S := S.ext (Keep.of_below hE); clear hE) | ((with_reducible refine tot_done ?ht ?_); (case ht => kernel_rfl))
                          exact ⟨rfl, S⟩)
                        (case hs => exact ⟨_, rfl, by kernel_rfl⟩)
                      refine softs_nil ?_
                      (with_reducible apply W_done); (case hn => rfl); (case hr => decide +kernel)
                      intro wz S
                      simp only [List.append_nil] at S
                      replace S := S.pick [0, 2, 3, 4, 5, 6, 7, 8, 9, 10, 11, 12, 13, 14, 15, 16, 1] rfl
                      simp only [pick, nth] at S
                      go_wp2_with first | ((with_reducible apply wps_loada (T := 52) (k := 4) S 0); (case hx | hi => rfl); (case hk => exact Nat.le_of_ble_eq_true rfl); (case hT => decide +kernel))
                      (refine wp_region_wt (soft := [0, 1, 2, 3, 4, 5, 6, 7]) (L := [_, _, _, _, _, _, _, _, _, _, _, _, _, _, _, _]) (T := [_]) S ?hm ?hB ?_); (case hm => kernel_rfl); (case hB => decide +kernel); clear S
                      iterate 8
                        (with_reducible apply softs_cons)
                        (case hw =>
                          (with_reducible apply soft_of); (case hi => rfl)
                          intro T wz S
                          simp only [List.cons_append, List.nil_append] at S
                          go_wp2_with first | ((with_reducible apply wps_load_el S 1 (hj := Hx.out) (q := 1) (u := .int .i64 (n0 : Int))); (case hx | hi => rfl); (case hn => omega); (case hu => rfl); (case hT => decide +kernel)) | ((with_reducible apply wps_loada (T := 52) (k := 4) S 15); (case hx | hi => rfl); (case hk => exact Nat.le_of_ble_eq_true rfl); (case hT => decide +kernel)) | ((with_reducible refine tot_done ?ht ?_); (case ht => kernel_rfl))
                          exact ⟨rfl, S⟩)
                        (case hs => exact ⟨_, rfl, by kernel_rfl⟩)
                      refine softs_nil ?_
                      (with_reducible apply W_hard1 (i := 8)); (case hn => rfl); (case hr => decide +kernel)
                      intro wz S
                      (with_reducible apply hard_of); (case hi => rfl)
                      simp only [List.cons_append, List.nil_append] at S
                      go_wp2_with first | ((with_reducible apply wps_store_owna sacells S 16 (hj := Hs0.out) (e' := thn) (q := 0) (vs := [.int .i64 thn.n0, .int .i64 thn.n1, .int .i64 thn.n2, .int .i64 thn.n3]) (m := 4)); (case hx => rfl); (case hn => omega); (case hi | hy | hm | h1 | he => rfl); (case hq => exact Nat.le_of_ble_eq_true rfl); (case hT => decide +kernel); clear S; intro wz S; simp only [List.set_cons_succ, List.set_cons_zero] at S) | ((with_reducible refine tot_done ?ht ?_); (case ht => kernel_rfl))
                      refine ⟨_, S, ?_⟩
                      clear S
                      (with_reducible apply W_done); (case hn => rfl); (case hr => decide +kernel)
                      intro wz S
                      repeat (first | simp only at S | simp only [pick] at S | simp only [nth] at S | simp only [List.set_cons_succ] at S | simp only [List.set_cons_zero] at S | simp only [List.setIfInBounds_toArray] at S | simp only [setAll] at S | simp only [List.cons_append] at S | simp only [List.nil_append] at S | simp only [List.append_nil] at S)
                      replace S := S.slsEl 2 rfl HVI.out HVB.out
                      go_wp2_with first | ((with_reducible apply wps_load_el S 2 (hj := Hx.out) (q := 2) (u := .slice bi ins.length di)); (case hx | hi => rfl); (case hn => omega); (case hu => rfl); (case hT => decide +kernel)) | ((with_reducible apply wps_appends elem_Ev ecells eone (by decide) S 1 (j := 0)); (case hx | hy | hi | hj => rfl); (case hl => first | omega | (simp; omega)); clear S; intro az nz cz wz hnz S; simp only [List.set_cons_succ, List.set_cons_zero] at S)
                      go_roundw
                      case rel => exact ⟨0 + 1, sk.set n0 thn, al ++ ins, by omega, .inr ⟨0, rfl, by go_num⟩, HSK2, HAL2, hal2, S.pick [1, 17, 2, 3, 4, 5, 6, 7, 8, 9, 10, 11, 12, 13, 14] rfl⟩
                      case measure => first | (simp [intOf]; done) | (simp [intOf]; omega)
              · obtain ⟨y, hy⟩ : ∃ y, lb[kk]? = some y := ⟨_, List.getElem?_eq_getElem (by omega)⟩
                have fk : decide ((0 : Int) < (kk : Int) + 1) = true := decide_eq_true (by omega)
                have hlk2 : (kk : Int) + 1 < lb.length := by omega
                have hlk3 : (kk : Int) < lb.length := by omega
                have hbe := hord kk y rfl hy
                unfold BefE at hbe
                simp only at hbe
                clear hord
                rcases hbe with hbe | ⟨hbe, hbe2⟩
                · have fa : decide (a < y.b.at_) = false := decide_eq_false (by omega)
                  have fb : (a == y.b.at_) = false := by simp; omega
                  clear hbe
                  have Hx := Lib.hid hx
                  have Hy := Lib.hid hy
                  clear hx hy
                  as_aux_lemma =>
                    go_wp2_with first | ((with_reducible apply wps_loada (T := 52) (k := 4) S 0); (case hx | hi => rfl); (case hk => exact Nat.le_of_ble_eq_true rfl); (case hT => decide +kernel))
                    (refine wp_region_w (soft := [0, 1, 2, 3, 4, 5, 6, 7, 8, 9, 10, 11, 12, 13, 14, 15, 16, 17, 18, 19, 20, 21, 22, 23, 24, 25, 26, 27, 28, 29, 30, 31, 32, 33, 34, 35, 36, 37, 38, 39, 40, 41, 42, 43, 44, 45, 46, 47, 48, 49, 50, 51, 52, 53, 54, 55, 56, 57, 58, 59, 60, 61]) S ?hm ?hB ?_); (case hm => kernel_rfl); (case hB => decide +kernel); clear S
                    iterate 62
                      (with_reducible apply softs_cons)
                      (case hw =>
                        (with_reducible apply soft_of); (case hi => rfl)
                        intro T wz S
                        simp only [List.cons_append, List.nil_append] at S
                        go_wp2_with first | ((with_reducible apply wps_load_el S 2 (hj := Hx.out) (q := 0) (u := .int .i64 a)); (case hx | hi => rfl); (case hn => omega); (case hu => rfl); (case hT => decide +kernel)) | ((with_reducible apply wps_load_el S 2 (hj := Hx.out) (q := 1) (u := .int .i64 (n0 : Int))); (case hx | hi => rfl); (case hn => omega); (case hu => rfl); (case hT => decide +kernel)) | ((with_reducible apply wps_load_el S 2 (hj := Hy.out) (q := 0) (u := .int .i64 y.b.at_)); (case hx | hi => rfl); (case hn => omega); (case hu => rfl); (case hT => decide +kernel)) | ((with_reducible refine tot_done ?ht ?_); (case ht => kernel_rfl))
                        exact ⟨rfl, S⟩)
                      (case hs => exact ⟨_, rfl, by kernel_rfl⟩)
                    refine softs_nil ?_
                    (with_reducible apply W_done); (case hn => rfl); (case hr => decide +kernel)
                    intro wz S
                    simp only [List.append_nil] at S
                    go_wp2_with first | ((with_reducible apply wps_loada (T := 52) (k := 4) S 0); (case hx | hi => rfl); (case hk => exact Nat.le_of_ble_eq_true rfl); (case hT => decide +kernel))
                    (refine wp_region_w (soft := [0, 1, 2, 3, 4, 5, 6, 7, 8, 9, 10, 11, 12, 13, 14, 15, 16, 17, 18, 19]) S ?hm ?hB ?_); (case hm => kernel_rfl); (case hB => decide +kernel); clear S
                    iterate 20
                      (with_reducible apply softs_cons)
                      (case hw =>
                        (with_reducible apply soft_of); (case hi => rfl)
                        intro T wz S
                        simp only [List.cons_append, List.nil_append] at S
                        go_wp2_with first | ((with_reducible apply wps_load_el S 2 (hj := Hx.out) (q := 1) (u := .int .i64 (n0 : Int))); (case hx | hi => rfl); (case hn => omega); (case hu => rfl); (case hT => decide +kernel)) | ((with_reducible apply wps_load_el S 2 (hj := Hx.out) (q := 2) (u := .slice bi ins.length di)); (case hx | hi => rfl); (case hn => omega); (case hu => rfl); (case hT => decide +kernel)) | ((with_reducible apply wps_loada_own sacells S 1 (hj := Hs0.out) (q := 0) (vs := [.int .i64 s0.n0, .int .i64 s0.n1, .int .i64 s0.n2, .int .i64 s0.n3]) (m := 4)); (case hx | hi => rfl); (case hn => omega); (case hm | hv => rfl); (case hT => decide +kernel)) | ((with_reducible refine tot_done ?ht ?_); (case ht => kernel_rfl))
                        exact ⟨rfl, S⟩)
                      (case hs => exact ⟨_, rfl, by kernel_rfl⟩)
                    refine softs_nil ?_
                    (with_reducible apply W_hard2 (i := 20) (i' := 24)); (case hn => rfl); (case hr => decide +kernel)
                    focus
                      intro wz S
                      (with_reducible apply hard_of); (case hi => rfl)
                      simp only [List.cons_append, List.nil_append] at S
                      go_wp2_with first | (go_at_call 15; have hcz := HRR.out _ _ _ _ (S.get (i := 5) rfl).choose_spec (sls_elC (S.get (i := 3) rfl).choose_spec HVI.out HVB.out) (S.get (i := 6) rfl).choose_spec; (with_reducible refine Calls.mono hcz ?_); clear hcz; rintro e wz ⟨adr, cdr, rfl, T⟩; replace S := S.join T rfl; clear T; simp only [List.cons_append, List.nil_append] at S) | ((with_reducible refine tot_done ?ht ?_); (case ht => kernel_rfl))
                      refine ⟨_, S.pick [1, 2, 3, 4, 5, 6, 7, 8, 9, 10, 11, 12, 13, 14, 15, 0] rfl, ?_⟩
                      clear S
                      (refine W_mid (f := 3) (soft := [21, 22, 23]) rfl ?hB ?_); (case hB => decide +kernel)
                      iterate 3
                        (with_reducible apply softs_cons)
                        (case hw =>
                          (with_reducible apply soft_of); (case hi => rfl)
                          intro T wz S
                          simp only [List.cons_append, List.nil_append] at S
                          go_wp2_with first | ((with_reducible refine tot_done ?ht ?_); (case ht => kernel_rfl))
                          exact ⟨rfl, S⟩)
                        (case hs => exact ⟨_, rfl, by kernel_rfl⟩)
                      refine softs_nil ?_
                      (with_reducible apply W_hard1 (i := 24)); (case hn => rfl); (case hr => decide +kernel)
                      intro wz S
                      (with_reducible apply hard_of); (case hi => rfl)
                      simp only [List.cons_append, List.nil_append] at S
                      go_wp2_with first | ((with_reducible apply wps_alloca (E := 52) S); (case hz => exact Tryz.zeroValue52); clear S; intro b20 wz S) | ((with_reducible refine tot_done ?ht ?_); (case ht => kernel_rfl))
                      refine ⟨_, S.pick [1, 2, 3, 4, 5, 6, 7, 8, 9, 10, 11, 12, 13, 14, 15, 16, 0] rfl, ?_⟩
                      clear S
                      (with_reducible apply W_hard1 (i := 25)); (case hn => rfl); (case hr => decide +kernel)
                      intro wz S
                      (with_reducible apply hard_of); (case hi => rfl)
                      simp only [List.cons_append, List.nil_append] at S
                      go_wp2_with first | ((with_reducible apply wps_storea (T := 52) S 16 (vs := [.int .i64 thn.n0, .int .i64 thn.n1, .int .i64 thn.n2, .int .i64 thn.n3]) (m := 4)); (case hx | hy | hi | hm | h1 => rfl); (case hn => exact Nat.le_of_ble_eq_true rfl); (case hT => decide +kernel); clear S; intro wz S; simp only [List.set_cons_zero, List.set_cons_succ, setAll, List.setIfInBounds_toArray] at S) | ((with_reducible refine tot_done ?ht ?_); (case ht => kernel_rfl))
                      refine ⟨_, S, ?_⟩
                      clear S
                      (refine W_mid (f := 0) (soft := [26]) rfl ?hB ?_); (case hB => decide +kernel)
                      iterate 1
                        (with_reducible apply softs_cons)
                        (case hw =>
                          (with_reducible apply soft_of); (case hi => rfl)
                          intro T wz S
                          simp only [List.cons_append, List.nil_append] at S
                          go_wp2_with first | ((with_reducible refine tot_done ?ht ?_); (case ht => kernel_rfl))
                          exact ⟨rfl, S⟩)
                        (case hs => exact ⟨_, rfl, by kernel_rfl⟩)
                      refine softs_nil ?_
                      (with_reducible apply W_done); (case hn => rfl); (case hr => decide +kernel)
                      intro wz S
                      repeat (first | simp only at S | simp only [pick] at S | simp only [nth] at S | simp only [List.set_cons_succ] at S | simp only [List.set_cons_zero] at S | simp only [List.setIfInBounds_toArray] at S | simp only [setAll] at S | simp only [List.cons_append] at S | simp only [List.nil_append] at S | simp only [List.append_nil] at S)
                    rotate_left 1
                    focus
                      intro wz S
                      (with_reducible apply hard_of); (case hi => rfl)
                      simp only [List.cons_append, List.nil_append] at S
                      go_wp2_with first | ((with_reducible apply wps_alloca (E := 52) S); (case hz => exact Tryz.zeroValue52); clear S; intro b20 wz S) | ((with_reducible refine tot_done ?ht ?_); (case ht => kernel_rfl))
                      refine ⟨_, S.pick [1, 2, 3, 4, 5, 6, 7, 8, 9, 10, 11, 12, 13, 14, 15, 0] rfl, ?_⟩
                      clear S
                      (with_reducible apply W_hard1 (i := 20)); (case hn => rfl); (case hr => decide +kernel)
                      intro wz S
                      (with_reducible apply hard_of); (case hi => rfl)
                      simp only [List.cons_append, List.nil_append] at S
                      go_wp2_with first | (go_at_call 15; have hcz := HRR.out _ _ _ _ (S.get (i := 5) rfl).choose_spec (sls_elC (S.get (i := 3) rfl).choose_spec HVI.out HVB.out) (S.get (i := 6) rfl).choose_spec; (with_reducible refine Calls.mono hcz ?_); clear hcz; rintro e wz ⟨adr, cdr, rfl, T⟩; replace S := S.join T rfl; clear T; simp only [List.cons_append, List.nil_append] at S) | ((with_reducible refine tot_done ?ht ?_); (case ht => kernel_rfl))
                      refine ⟨_, S.pick [1, 2, 3, 4, 5, 6, 7, 8, 9, 10, 11, 12, 13, 14, 15, 0, 16] rfl, ?_⟩
                      clear S
                      (refine W_mid (f := 2) (soft := [21, 22, 23]) rfl ?hB ?_); (case hB => decide +kernel)
                      iterate 3
                        (with_reducible apply softs_cons)
                        (case hw =>
                          (with_reducible apply soft_of); (case hi => rfl)
                          intro T wz S
                          simp only [List.cons_append, List.nil_append] at S
                          go_wp2_with first | ((with_reducible refine tot_done ?ht ?_); (case ht => kernel_rfl))
                          exact ⟨rfl, S⟩)
                        (case hs => exact ⟨_, rfl, by kernel_rfl⟩)
                      refine softs_nil ?_
                      (with_reducible apply W_hard1 (i := 25)); (case hn => rfl); (case hr => decide +kernel)
                      intro wz S
                      (with_reducible apply hard_of); (case hi => rfl)
                      simp only [List.cons_append, List.nil_append] at S
                      go_wp2_with first | ((with_reducible apply wps_storea (T := 52) S 16 (vs := [.int .i64 thn.n0, .int .i64 thn.n1, .int .i64 thn.n2, .int .i64 thn.n3]) (m := 4)); (case hx | hy | hi | hm | h1 => rfl); (case hn => exact Nat.le_of_ble_eq_true rfl); (case hT => decide +kernel); clear S; intro wz S; simp only [List.set_cons_zero, List.set_cons_succ, setAll, List.setIfInBounds_toArray] at S) | ((with_reducible refine tot_done ?ht ?_); (case ht => kernel_rfl))
                      refine ⟨_, S, ?_⟩
                      clear S
                      (refine W_mid (f := 0) (soft := [26]) rfl ?hB ?_); (case hB => decide +kernel)
                      iterate 1
                        (with_reducible apply softs_cons)
                        (case hw =>
                          (with_reducible apply soft_of); (case hi => rfl)
                          intro T wz S
                          simp only [List.cons_append, List.nil_append] at S
                          go_wp2_with first | ((with_reducible refine tot_done ?ht ?_); (case ht => kernel_rfl))
                          exact ⟨rfl, S⟩)
                        (case hs => exact ⟨_, rfl, by kernel_rfl⟩)
                      refine softs_nil ?_
                      (with_reducible apply W_done); (case hn => rfl); (case hr => decide +kernel)
                      intro wz S
                      repeat (first | simp only at S | simp only [pick] at S | simp only [nth] at S | simp only [List.set_cons_succ] at S | simp only [List.set_cons_zero] at S | simp only [List.setIfInBounds_toArray] at S | simp only [setAll] at S | simp only [List.cons_append] at S | simp only [List.nil_append] at S | simp only [List.append_nil] at S)
                    all_goals
                      as_aux_lemma =>
                        go_wp2_with first | ((with_reducible apply wps_loada (T := 52) (k := 4) S 0); (case hx | hi => rfl); (case hk => exact Nat.le_of_ble_eq_true rfl); (case hT => decide +kernel))
                        (refine wp_region_w (soft := [0, 1, 2, 3, 4, 5, 6, 7, 8, 9, 10, 11, 12, 13, 14, 15, 16]) S ?hm ?hB ?_); (case hm => kernel_rfl); (case hB => decide +kernel); clear S
                        iterate 17
                          (with_reducible apply softs_cons)
                          (case hw =>
                            (with_reducible apply soft_of); (case hi => rfl)
                            intro T wz S
                            simp only [List.cons_append, List.nil_append] at S
                            go_wp2_with first | ((with_reducible apply wps_load_el S 2 (hj := Hx.out) (q := 7) (u := .slice ao sent.length co)); (case hx | hi => rfl); (case hn => omega); (case hu => rfl); (case hT => decide +kernel)) | ((with_reducible apply wps_loada_el S 2 (hj := Hx.out) (q := 3) (vs := [.int .i64 thn.n0, .int .i64 thn.n1, .int .i64 thn.n2, .int .i64 thn.n3]) (m := 4)); (case hx | hi => rfl); (case hn => omega); (case hm | hv => rfl); (case hT => decide +kernel)) | ((with_reducible apply wps_loada (T := 52) (k := 4) S 16); (case hx | hi => rfl); (case hk => exact Nat.le_of_ble_eq_true rfl); (case hT => decide +kernel)) | ((with_reducible apply wpList_neq_agg (t := 52) (ks := [.int .i64, .int .i64, .int .i64, .int .i64]) (b := _)); (case hx | hy => rfl); (case hl | ha | hg => kernel_rfl); (case hfx | hfy => rfl); (case hb => exact HN.out)) | (go_at_call 16; have hcz := HEv.out _ _ _ _ _ (own_sl (sh := true) ecells (S.get (i := 15) rfl).choose_spec) (sls_elC (S.get (i := 4) rfl).choose_spec HVO.out HVS.out); (with_reducible refine Calls.mono hcz ?_); clear hcz; rintro e wz ⟨rfl, hE⟩; replace S := S.ext (Keep.of_below hE); clear hE) | ((with_reducible refine tot_done ?ht ?_); (case ht => kernel_rfl))
                            exact ⟨rfl, S⟩)
                          (case hs => exact ⟨_, rfl, by kernel_rfl⟩)
                        refine softs_nil ?_
                        (with_reducible apply W_done); (case hn => rfl); (case hr => decide +kernel)
                        intro wz S
                        simp only [List.append_nil] at S
                        replace S := S.pick [0, 2, 3, 4, 5, 6, 7, 8, 9, 10, 11, 12, 13, 14, 15, 16, 1] rfl
                        simp only [pick, nth] at S
                        go_wp2_with first | ((with_reducible apply wps_loada (T := 52) (k := 4) S 0); (case hx | hi => rfl); (case hk => exact Nat.le_of_ble_eq_true rfl); (case hT => decide +kernel))
                        (refine wp_region_wt (soft := [0, 1, 2, 3, 4, 5, 6, 7]) (L := [_, _, _, _, _, _, _, _, _, _, _, _, _, _, _, _]) (T := [_]) S ?hm ?hB ?_); (case hm => kernel_rfl); (case hB => decide +kernel); clear S
                        iterate 8
                          (with_reducible apply softs_cons)
                          (case hw =>
                            (with_reducible apply soft_of); (case hi => rfl)
                            intro T wz S
                            simp only [List.cons_append, List.nil_append] at S
                            go_wp2_with first | ((with_reducible apply wps_load_el S 1 (hj := Hx.out) (q := 1) (u := .int .i64 (n0 : Int))); (case hx | hi => rfl); (case hn => omega); (case hu => rfl); (case hT => decide +kernel)) | ((with_reducible apply wps_loada (T := 52) (k := 4) S 15); (case hx | hi => rfl); (case hk => exact Nat.le_of_ble_eq_true rfl); (case hT => decide +kernel)) | ((with_reducible refine tot_done ?ht ?_); (case ht => kernel_rfl))
                            exact ⟨rfl, S⟩)
                          (case hs => exact ⟨_, rfl, by kernel_rfl⟩)
                        refine softs_nil ?_
                        (with_reducible apply W_hard1 (i := 8)); (case hn => rfl); (case hr => decide +kernel)
                        intro wz S
                        (with_reducible apply hard_of); (case hi => rfl)
                        simp only [List.cons_append, List.nil_append] at S
                        go_wp2_with first | ((with_reducible apply wps_store_owna sacells S 16 (hj := Hs0.out) (e' := thn) (q := 0) (vs := [.int .i64 thn.n0, .int .i64 thn.n1, .int .i64 thn.n2, .int .i64 thn.n3]) (m := 4)); (case hx => rfl); (case hn => omega); (case hi | hy | hm | h1 | he => rfl); (case hq => exact Nat.le_of_ble_eq_true rfl); (case hT => decide +kernel); clear S; intro wz S; simp only [List.set_cons_succ, List.set_cons_zero] at S) | ((with_reducible refine tot_done ?ht ?_); (case ht => kernel_rfl))
                        refine ⟨_, S, ?_⟩
                        clear S
                        (with_reducible apply W_done); (case hn => rfl); (case hr => decide +kernel)
                        intro wz S
                        repeat (first | simp only at S | simp only [pick] at S | simp only [nth] at S | simp only [List.set_cons_succ] at S | simp only [List.set_cons_zero] at S | simp only [List.setIfInBounds_toArray] at S | simp only [setAll] at S | simp only [List.cons_append] at S | simp only [List.nil_append] at S | simp only [List.append_nil] at S)
                        replace S := S.slsEl 2 rfl HVI.out HVB.out
                        go_wp2_with first | ((with_reducible apply wps_load_el S 2 (hj := Hx.out) (q := 2) (u := .slice bi ins.length di)); (case hx | hi => rfl); (case hn => omega); (case hu => rfl); (case hT => decide +kernel)) | ((with_reducible apply wps_appends elem_Ev ecells eone (by decide) S 1 (j := 0)); (case hx | hy | hi | hj => rfl); (case hl => first | omega | (simp; omega)); clear S; intro az nz cz wz hnz S; simp only [List.set_cons_succ, List.set_cons_zero] at S)
                        go_roundw
                        case rel => exact ⟨kk + 1 + 1, sk.set n0 thn, al ++ ins, by omega, .inr ⟨kk + 1, rfl, by go_num⟩, HSK2, HAL2, hal2, S.pick [1, 17, 2, 3, 4, 5, 6, 7, 8, 9, 10, 11, 12, 13, 14] rfl⟩
                        case measure => first | (simp [intOf]; done) | (simp [intOf]; omega)
                · have fa : decide (a < y.b.at_) = false := decide_eq_false (by omega)
                  have fb : (a == y.b.at_) = true := by simp [hbe]
                  have fc : decide ((n0 : Int) ≤ y.b.lp) = false := decide_eq_false (by omega)
                  clear hbe hbe2
                  have Hx := Lib.hid hx
                  have Hy := Lib.hid hy
                  clear hx hy
                  as_aux_lemma =>
                    go_wp2_with first | ((with_reducible apply wps_loada (T := 52) (k := 4) S 0); (case hx | hi => rfl); (case hk => exact Nat.le_of_ble_eq_true rfl); (case hT => decide +kernel))
                    (refine wp_region_w (soft := [0, 1, 2, 3, 4, 5, 6, 7, 8, 9, 10, 11, 12, 13, 14, 15, 16, 17, 18, 19, 20, 21, 22, 23, 24, 25, 26, 27, 28, 29, 30, 31, 32, 33, 34, 35, 36, 37, 38, 39, 40, 41, 42, 43, 44, 45, 46, 47, 48, 49, 50, 51, 52, 53, 54, 55, 56, 57, 58, 59, 60, 61]) S ?hm ?hB ?_); (case hm => kernel_rfl); (case hB => decide +kernel); clear S
                    iterate 62
                      (with_reducible apply softs_cons)
                      (case hw =>
                        (with_reducible apply soft_of); (case hi => rfl)
                        intro T wz S
                        simp only [List.cons_append, List.nil_append] at S
                        go_wp2_with first | ((with_reducible apply wps_load_el S 2 (hj := Hx.out) (q := 0) (u := .int .i64 a)); (case hx | hi => rfl); (case hn => omega); (case hu => rfl); (case hT => decide +kernel)) | ((with_reducible apply wps_load_el S 2 (hj := Hx.out) (q := 1) (u := .int .i64 (n0 : Int))); (case hx | hi => rfl); (case hn => omega); (case hu => rfl); (case hT => decide +kernel)) | ((with_reducible apply wps_load_el S 2 (hj := Hy.out) (q := 0) (u := .int .i64 y.b.at_)); (case hx | hi => rfl); (case hn => omega); (case hu => rfl); (case hT => decide +kernel)) | ((with_reducible apply wps_load_el S 2 (hj := Hy.out) (q := 1) (u := .int .i64 y.b.lp)); (case hx | hi => rfl); (case hn => omega); (case hu => rfl); (case hT => decide +kernel)) | ((with_reducible refine tot_done ?ht ?_); (case ht => kernel_rfl))
                        exact ⟨rfl, S⟩)
                      (case hs => exact ⟨_, rfl, by kernel_rfl⟩)
                    refine softs_nil ?_
                    (with_reducible apply W_done); (case hn => rfl); (case hr => decide +kernel)
                    intro wz S
                    simp only [List.append_nil] at S
                    go_wp2_with first | ((with_reducible apply wps_loada (T := 52) (k := 4) S 0); (case hx | hi => rfl); (case hk => exact Nat.le_of_ble_eq_true rfl); (case hT => decide +kernel))
                    (refine wp_region_w (soft := [0, 1, 2, 3, 4, 5, 6, 7, 8, 9, 10, 11, 12, 13, 14, 15, 16, 17, 18, 19]) S ?hm ?hB ?_); (case hm => kernel_rfl); (case hB => decide +kernel); clear S
                    iterate 20
                      (with_reducible apply softs_cons)
                      (case hw =>
                        (with_reducible apply soft_of); (case hi => rfl)
                        intro T wz S
                        simp only [List.cons_append, List.nil_append] at S
                        go_wp2_with first | ((with_reducible apply wps_load_el S 2 (hj := Hx.out) (q := 1) (u := .int .i64 (n0 : Int))); (case hx | hi => rfl); (case hn => omega); (case hu => rfl); (case hT => decide +kernel)) | ((with_reducible apply wps_load_el S 2 (hj := Hx.out) (q := 2) (u := .slice bi ins.length di)); (case hx | hi => rfl); (case hn => omega); (case hu => rfl); (case hT => decide +kernel)) | ((with_reducible apply wps_loada_own sacells S 1 (hj := Hs0.out) (q := 0) (vs := [.int .i64 s0.n0, .int .i64 s0.n1, .int .i64 s0.n2, .int .i64 s0.n3]) (m := 4)); (case hx | hi => rfl); (case hn => omega); (case hm | hv => rfl); (case hT => decide +kernel)) | ((with_reducible refine tot_done ?ht ?_); (case ht => kernel_rfl))
                        exact ⟨rfl, S⟩)
                      (case hs => exact ⟨_, rfl, by kernel_rfl⟩)
                    refine softs_nil ?_
                    (with_reducible apply W_hard2 (i := 20) (i' := 24)); (case hn => rfl); (case hr => decide +kernel)
                    focus
                      intro wz S
                      (with_reducible apply hard_of); (case hi => rfl)
                      simp only [List.cons_append, List.nil_append] at S
                      go_wp2_with first | (go_at_call 15; have hcz := HRR.out _ _ _ _ (S.get (i := 5) rfl).choose_spec (sls_elC (S.get (i := 3) rfl).choose_spec HVI.out HVB.out) (S.get (i := 6) rfl).choose_spec; (with_reducible refine Calls.mono hcz ?_); clear hcz; rintro e wz ⟨adr, cdr, rfl, T⟩; replace S := S.join T rfl; clear T; simp only [List.cons_append, List.nil_append] at S) | ((with_reducible refine tot_done ?ht ?_); (case ht => kernel_rfl))
                      refine ⟨_, S.pick [1, 2, 3, 4, 5, 6, 7, 8, 9, 10, 11, 12, 13, 14, 15, 0] rfl, ?_⟩
                      clear S
                      (refine W_mid (f := 3) (soft := [21, 22, 23]) rfl ?hB ?_); (case hB => decide +kernel)
                      iterate 3
                        (with_reducible apply softs_cons)
                        (case hw =>
                          (with_reducible apply soft_of); (case hi => rfl)
                          intro T wz S
                          simp only [List.cons_append, List.nil_append] at S
                          go_wp2_with first | ((with_reducible refine tot_done ?ht ?_); (case ht => kernel_rfl))
                          exact ⟨rfl, S⟩)
                        (case hs => exact ⟨_, rfl, by kernel_rfl⟩)
                      refine softs_nil ?_
                      (with_reducible apply W_hard1 (i := 24)); (case hn => rfl); (case hr => decide +kernel)
                      intro wz S
                      (with_reducible apply hard_of); (case hi => rfl)
                      simp only [List.cons_append, List.nil_append] at S
                      go_wp2_with first | ((with_reducible apply wps_alloca (E := 52) S); (case hz => exact Tryz.zeroValue52); clear S; intro b20 wz S) | ((with_reducible refine tot_done ?ht ?_); (case ht => kernel_rfl))
                      refine ⟨_, S.pick [1, 2, 3, 4, 5, 6, 7, 8, 9, 10, 11, 12, 13, 14, 15, 16, 0] rfl, ?_⟩
                      clear S
                      (with_reducible apply W_hard1 (i := 25)); (case hn => rfl); (case hr => decide +kernel)
                      intro wz S
                      (with_reducible apply hard_of); (case hi => rfl)
                      simp only [List.cons_append, List.nil_append] at S
                      go_wp2_with first | ((with_reducible apply wps_storea (T := 52) S 16 (vs := [.int .i64 thn.n0, .int .i64 thn.n1, .int .i64 thn.n2, .int .i64 thn.n3]) (m := 4)); (case hx | hy | hi | hm | h1 => rfl); (case hn => exact Nat.le_of_ble_eq_true rfl); (case hT => decide +kernel); clear S; intro wz S; simp only [List.set_cons_zero, List.set_cons_succ, setAll, List.setIfInBounds_toArray] at S) | ((with_reducible refine tot_done ?ht ?_); (case ht => kernel_rfl))
                      refine ⟨_, S, ?_⟩
                      clear S
                      (refine W_mid (f := 0) (soft := [26]) rfl ?hB ?_); (case hB => decide +kernel)
                      iterate 1
                        (with_reducible apply softs_cons)
                        (case hw =>
                          (with_reducible apply soft_of); (case hi => rfl)
                          intro T wz S
                          simp only [List.cons_append, List.nil_append] at S
                          go_wp2_with first | ((with_reducible refine tot_done ?ht ?_); (case ht => kernel_rfl))
                          exact ⟨rfl, S⟩)
                        (case hs => exact ⟨_, rfl, by kernel_rfl⟩)
                      refine softs_nil ?_
                      (with_reducible apply W_done); (case hn => rfl); (case hr => decide +kernel)
                      intro wz S
                      repeat (first | simp only at S | simp only [pick] at S | simp only [nth] at S | simp only [List.set_cons_succ] at S | simp only [List.set_cons_zero] at S | simp only [List.setIfInBounds_toArray] at S | simp only [setAll] at S | simp only [List.cons_append] at S | simp only [List.nil_append] at S | simp only [List.append_nil] at S)
                    rotate_left 1
                    focus
                      intro wz S
                      (with_reducible apply hard_of); (case hi => rfl)
                      simp only [List.cons_append, List.nil_append] at S
                      go_wp2_with first | ((with_reducible apply wps_alloca (E := 52) S); (case hz => exact Tryz.zeroValue52); clear S; intro b20 wz S) | ((with_reducible refine tot_done ?ht ?_); (case ht => kernel_rfl))
                      refine ⟨_, S.pick [1, 2, 3, 4, 5, 6, 7, 8, 9, 10, 11, 12, 13, 14, 15, 0] rfl, ?_⟩
                      clear S
                      (with_reducible apply W_hard1 (i := 20)); (case hn => rfl); (case hr => decide +kernel)
                      intro wz S
                      (with_reducible apply hard_of); (case hi => rfl)
                      simp only [List.cons_append, List.nil_append] at S
                      go_wp2_with first | (go_at_call 15; have hcz := HRR.out _ _ _ _ (S.get (i := 5) rfl).choose_spec (sls_elC (S.get (i := 3) rfl).choose_spec HVI.out HVB.out) (S.get (i := 6) rfl).choose_spec; (with_reducible refine Calls.mono hcz ?_); clear hcz; rintro e wz ⟨adr, cdr, rfl, T⟩; replace S := S.join T rfl; clear T; simp only [List.cons_append, List.nil_append] at S) | ((with_reducible refine tot_done ?ht ?_); (case ht => kernel_rfl))
                      refine ⟨_, S.pick [1, 2, 3, 4, 5, 6, 7, 8, 9, 10, 11, 12, 13, 14, 15, 0, 16] rfl, ?_⟩
                      clear S
                      (refine W_mid (f := 2) (soft := [21, 22, 23]) rfl ?hB ?_); (case hB => decide +kernel)
                      iterate 3
                        (with_reducible apply softs_cons)
                        (case hw =>
                          (with_reducible apply soft_of); (case hi => rfl)
                          intro T wz S
                          simp only [List.cons_append, List.nil_append] at S
                          go_wp2_with first | ((with_reducible refine tot_done ?ht ?_); (case ht => kernel_rfl))
                          exact ⟨rfl, S⟩)
                        (case hs => exact ⟨_, rfl, by kernel_rfl⟩)
                      refine softs_nil ?_
                      (with_reducible apply W_hard1 (i := 25)); (case hn => rfl); (case hr => decide +kernel)
                      intro wz S
                      (with_reducible apply hard_of); (case hi => rfl)
                      simp only [List.cons_append, List.nil_append] at S
                      go_wp2_with first | ((with_reducible apply wps_storea (T := 52) S 16 (vs := [.int .i64 thn.n0, .int .i64 thn.n1, .int .i64 thn.n2, .int .i64 thn.n3]) (m := 4)); (case hx | hy | hi | hm | h1 => rfl); (case hn => exact Nat.le_of_ble_eq_true rfl); (case hT => decide +kernel); clear S; intro wz S; simp only [List.set_cons_zero, List.set_cons_succ, setAll, List.setIfInBounds_toArray] at S) | ((with_reducible refine tot_done ?ht ?_); (case ht => kernel_rfl))
                      refine ⟨_, S, ?_⟩
                      clear S
                      (refine W_mid (f := 0) (soft := [26]) rfl ?hB ?_); (case hB => decide +kernel)
                      iterate 1
                        (with_reducible apply softs_cons)
                        (case hw =>
                          (with_reducible apply soft_of); (case hi => rfl)
                          intro T wz S
                          simp only [List.cons_append, List.nil_append] at S
                          go_wp2_with first | ((with_reducible refine tot_done ?ht ?_); (case ht => kernel_rfl))
                          exact ⟨rfl, S⟩)
                        (case hs => exact ⟨_, rfl, by kernel_rfl⟩)
                      refine softs_nil ?_
                      (with_reducible apply W_done); (case hn => rfl); (case hr => decide +kernel)
                      intro wz S
                      repeat (first | simp only at S | simp only [pick] at S | simp only [nth] at S | simp only [List.set_cons_succ] at S | simp only [List.set_cons_zero] at S | simp only [List.setIfInBounds_toArray] at S | simp only [setAll] at S | simp only [List.cons_append] at S | simp only [List.nil_append] at S | simp only [List.append_nil] at S)
                    all_goals
                      as_aux_lemma =>
                        go_wp2_with first | ((with_reducible apply wps_loada (T := 52) (k := 4) S 0); (case hx | hi => rfl); (case hk => exact Nat.le_of_ble_eq_true rfl); (case hT => decide +kernel))
                        (refine wp_region_w (soft := [0, 1, 2, 3, 4, 5, 6, 7, 8, 9, 10, 11, 12, 13, 14, 15, 16]) S ?hm ?hB ?_); (case hm => kernel_rfl); (case hB => decide +kernel); clear S
                        iterate 17
                          (with_reducible apply softs_cons)
                          (case hw =>
                            (with_reducible apply soft_of); (case hi => rfl)
                            intro T wz S
                            simp only [List.cons_append, List.nil_append] at S
                            go_wp2_with first | ((with_reducible apply wps_load_el S 2 (hj := Hx.out) (q := 7) (u := .slice ao sent.length co)); (case hx | hi => rfl); (case hn => omega); (case hu => rfl); (case hT => decide +kernel)) | ((with_reducible apply wps_loada_el S 2 (hj := Hx.out) (q := 3) (vs := [.int .i64 thn.n0, .int .i64 thn.n1, .int .i64 thn.n2, .int .i64 thn.n3]) (m := 4)); (case hx | hi => rfl); (case hn => omega); (case hm | hv => rfl); (case hT => decide +kernel)) | ((with_reducible apply wps_loada (T := 52) (k := 4) S 16); (case hx | hi => rfl); (case hk => exact Nat.le_of_ble_eq_true rfl); (case hT => decide +kernel)) | ((with_reducible apply wpList_neq_agg (t := 52) (ks := [.int .i64, .int .i64, .int .i64, .int .i64]) (b := _)); (case hx | hy => rfl); (case hl | ha | hg => kernel_rfl); (case hfx | hfy => rfl); (case hb => exact HN.out)) | (go_at_call 16; have hcz := HEv.out _ _ _ _ _ (own_sl (sh := true) ecells (S.get (i := 15) rfl).choose_spec) (sls_elC (S.get (i := 4) rfl).choose_spec HVO.out HVS.out); (with_reducible refine Calls.mono hcz ?_); clear hcz; rintro e wz ⟨rfl, hE⟩; replace S := S.ext (Keep.of_below hE); clear hE) | ((with_reducible refine tot_done ?ht ?_); (case ht => kernel_rfl))
                            exact ⟨rfl, S⟩)
                          (case hs => exact ⟨_, rfl, by kernel_rfl⟩)
                        refine softs_nil ?_
                        (with_reducible apply W_done); (case hn => rfl); (case hr => decide +kernel)
                        intro wz S
                        simp only [List.append_nil] at S
                        replace S := S.pick [0, 2, 3, 4, 5, 6, 7, 8, 9, 10, 11, 12, 13, 14, 15, 16, 1] rfl
                        simp only [pick, nth] at S
                        go_wp2_with first | ((with_reducible apply wps_loada (T := 52) (k := 4) S 0); (case hx | hi => rfl); (case hk => exact Nat.le_of_ble_eq_true rfl); (case hT => decide +kernel))
                        (refine wp_region_wt (soft := [0, 1, 2, 3, 4, 5, 6, 7]) (L := [_, _, _, _, _, _, _, _, _, _, _, _, _, _, _, _]) (T := [_]) S ?hm ?hB ?_); (case hm => kernel_rfl); (case hB => decide +kernel); clear S
                        iterate 8
                          (with_reducible apply softs_cons)
                          (case hw =>
                            (with_reducible apply soft_of); (case hi => rfl)
                            intro T wz S
                            simp only [List.cons_append, List.nil_append] at S
                            go_wp2_with first | ((with_reducible apply wps_load_el S 1 (hj := Hx.out) (q := 1) (u := .int .i64 (n0 : Int))); (case hx | hi => rfl); (case hn => omega); (case hu => rfl); (case hT => decide +kernel)) | ((with_reducible apply wps_loada (T := 52) (k := 4) S 15); (case hx | hi => rfl); (case hk => exact Nat.le_of_ble_eq_true rfl); (case hT => decide +kernel)) | ((with_reducible refine tot_done ?ht ?_); (case ht => kernel_rfl))
                            exact ⟨rfl, S⟩)
                          (case hs => exact ⟨_, rfl, by kernel_rfl⟩)
                        refine softs_nil ?_
                        (with_reducible apply W_hard1 (i := 8)); (case hn => rfl); (case hr => decide +kernel)
                        intro wz S
                        (with_reducible apply hard_of); (case hi => rfl)
                        simp only [List.cons_append, List.nil_append] at S
                        go_wp2_with first | ((with_reducible apply wps_store_owna sacells S 16 (hj := Hs0.out) (e' := thn) (q := 0) (vs := [.int .i64 thn.n0, .int .i64 thn.n1, .int .i64 thn.n2, .int .i64 thn.n3]) (m := 4)); (case hx => rfl); (case hn => omega); (case hi | hy | hm | h1 | he => rfl); (case hq => exact Nat.le_of_ble_eq_true rfl); (case hT => decide +kernel); clear S; intro wz S; simp only [List.set_cons_succ, List.set_cons_zero] at S) | ((with_reducible refine tot_done ?ht ?_); (case ht => kernel_rfl))
                        refine ⟨_, S, ?_⟩
                        clear S
                        (with_reducible apply W_done); (case hn => rfl); (case hr => decide +kernel)
                        intro wz S
                        repeat (first | simp only at S | simp only [pick] at S | simp only [nth] at S | simp only [List.set_cons_succ] at S | simp only [List.set_cons_zero] at S | simp only [List.setIfInBounds_toArray] at S | simp only [setAll] at S | simp only [List.cons_append] at S | simp only [List.nil_append] at S | simp only [List.append_nil] at S)
                        replace S := S.slsEl 2 rfl HVI.out HVB.out
                        go_wp2_with first | ((with_reducible apply wps_load_el S 2 (hj := Hx.out) (q := 2) (u := .slice bi ins.length di)); (case hx | hi => rfl); (case hn => omega); (case hu => rfl); (case hT => decide +kernel)) | ((with_reducible apply wps_appends elem_Ev ecells eone (by decide) S 1 (j := 0)); (case hx | hy | hi | hj => rfl); (case hl => first | omega | (simp; omega)); clear S; intro az nz cz wz hnz S; simp only [List.set_cons_succ, List.set_cons_zero] at S)
                        go_roundw
                        case rel => exact ⟨kk + 1 + 1, sk.set n0 thn, al ++ ins, by omega, .inr ⟨kk + 1, rfl, by go_num⟩, HSK2, HAL2, hal2, S.pick [1, 17, 2, 3, 4, 5, 6, 7, 8, 9, 10, 11, 12, 13, 14] rfl⟩
                        case measure => first | (simp [intOf]; done) | (simp [intOf]; omega)
            · have hke : k = lb.length := by omega
              have hbl : bs.length = lb.length := by rw [← HLB.out, List.length_map]
              have hsk2 : sk = G2.ss := by have := HSK.out; rw [hke, ← hbl, List.take_length, HCB.out.fin] at this; exact this.symm
              have halp : al.Perm l := by have := HAL.out; rw [hke, ← hbl, List.take_length] at this; rw [← this]; exact HCB.out.perm
              have hall := halp.length_eq
              subst hsk2
              obtain ⟨sl, hsl⟩ : ∃ sl, sortT l = sl := ⟨_, rfl⟩
              have hsl2 : l.length = sl.length := by rw [← hsl, sortT_len2]
              have hsl3 : sortT al = sl := by rw [← hsl]; exact sortT_of_perm halp
              have HS1 : Hid (∀ (v : Value) (w : World) (F : Nat → Prop) (h : (Sl true Event.cells 7 v al).at_ w F), Calls Tryz.prog 17 #[v] w fun e w' => ∃ ad c, e = .returned (.slice ad sl.length c) ∧ St (fun _ => False) w w' [Mem.Own 78 Event.cells 7 (.slice ad sl.length c) sl]) := Lib.hid fun v w F h => (tsort_calls v al w F h (by omega)).mono fun e w' hp => by
                obtain ⟨ad, c, he, S⟩ := hp
                rw [hsl3] at S
                rw [hall, hsl2] at he S
                exact ⟨ad, c, he, S⟩
              have HS2 : Hid (∀ (v : Value) (w : World) (F : Nat → Prop) (h : (Sl true Event.cells 7 v l).at_ w F), Calls Tryz.prog 17 #[v] w fun e w' => ∃ ad c, e = .returned (.slice ad sl.length c) ∧ St (fun _ => False) w w' [Mem.Own 78 Event.cells 7 (.slice ad sl.length c) sl]) := Lib.hid fun v w F h => (tsort_calls v l w F h (by omega)).mono fun e w' hp => by
                obtain ⟨ad, c, he, S⟩ := hp
                rw [hsl] at S
                rw [hsl2] at he S
                exact ⟨ad, c, he, S⟩
              have HEs : Hid (∀ (v1 v2 : Value) (w : World) (F1 F2 : Nat → Prop) (h1 : (Sl true Event.cells 7 v1 sl).at_ w F1) (h2 : (Sl true Event.cells 7 v2 sl).at_ w F2), Calls Tryz.prog 16 #[v1, v2] w fun r w' => r = .returned (.bool true) ∧ Below w.heap.size w w') := Lib.hid fun v1 v2 w F1 F2 h1 h2 =>
                (evseq_callsT _ _ _ _ w F1 F2 h1 h2 (by omega) (by omega)).mono fun r w' ⟨h, hb2⟩ => ⟨by rw [h]; simp, hb2⟩
              have hdn80 : dn.length ≤ 80 := by have h1 := congrArg List.length HDN.out; rw [List.length_map] at h1; have := HGL.out; omega
              have hss2 : G2.ss.length = c.lps.length := by rw [← HCB.out.fin, setst_len]; exact HSS.out
              have hss3 : G2.ss.length ≤ 65536 := by omega
              have HSS2 := Lib.hid hss2
              have HTm : Hid (∀ (w : World) (F : Nat → Prop) (h : (logA X R G2).at_ w F), Calls Tryz.prog 9 #[.pointer (some ⟨X, 0, none⟩)] w fun e w' => e = .returned (.int .i64 tj) ∧ Below w.heap.size w w') := Lib.hid fun w F h => (ltime_calls X R G2 w F h).mono fun e w' hp => by rw [HG2t.out] at hp; exact hp
              have HST := Lib.hid fun (w : World) (F : Nat → Prop) (h : (logA X R G2).at_ w F) => lstates_calls X R G2 w F h hss3
              have HSE := Lib.hid fun (v1 v2 : Value) (w : World) (F1 F2 : Nat → Prop) (h1 : (Sl true State.cells 4 v1 G2.ss).at_ w F1) (h2 : (Sl true State.cells 4 v2 G2.ss).at_ w F2) => stseq_calls v1 v2 G2.ss w F1 F2 h1 h2 hss3
              have f8 : (tj != tj) = false := by simp
              have HDK : Hid ((dn ++ lb).map (·.b) = G2.done) := Lib.hid (by rw [List.map_append, HDN.out, HLB.out, HG2d.out])
              have HTM2 : Hid (0 ≤ G2.time) := Lib.hid (by rw [HG2t.out]; exact HTJ.out)
              have HGL2 : Hid (G2.done.length ≤ 40 * (j + 1)) := Lib.hid (by rw [HG2d.out, List.length_append, hbl]; have := HGL.out; omega)
              have HGZ2 : Hid (∀ b ∈ G2.done, b.ins.length ≤ 40 ∧ b.sent.length ≤ 320) := Lib.hid fun b hb => by
                rw [HG2d.out] at hb
                rcases List.mem_append.1 hb with hb | hb
                · exact HGZ.out b hb
                · obtain ⟨q, hq⟩ := List.getElem?_of_mem hb
                  have := HCB.out.each q b hq
                  omega
              have hap : dn.length + lb.length ≤ 4294967296 := by omega
              have hnk : ∀ z : Int, z = k → ¬ (z < lb.length) := fun z hz => by omega
              have hj1 : j + 1 ≤ lss.length := by omega
              clear hbl halp hall hsl hsl2 hsl3 hss2 hss3 HSK HAL HCB HLB HG2t HG2d HTM HTJ HSS HGL HGZ HDN hlk
              rcases hki with ⟨hk0, rfl⟩ | ⟨kk, hkk, rfl⟩
              · have hn0 := hnk 0 (by omega)
                clear hnk hk0 hke hk
                as_aux_lemma =>
                  go_upto_region 34 with first | ((with_reducible apply wps_appends elem_Bat bvcells bvone (by decide) S 12 (j := 2)); (case hx | hy | hi | hj => rfl); (case hl => first | omega | (simp; omega)); clear S; intro az nz cz wz hnz S; simp only [List.set_cons_succ, List.set_cons_zero] at S)
                  replace S := S.pick [13, 3, 14, 4, 0, 1, 5, 6, 7, 8, 9, 10, 11, 12] rfl
                  simp only [pick, nth] at S
                  replace S := S.slsAppendS
                  replace S := S.pick [1, 2, 0, 3, 4, 5, 6, 7, 8, 9, 10, 11, 12] rfl
                  simp only [pick, nth] at S
                  replace S := S.slsAppendS
                  rw [← List.map_append, ← List.map_append, ← List.map_append, ← List.map_append] at S
                  generalize dn ++ lb = dk at *
                  clear hap hdn80
                  go_wp2_with first | ((with_reducible apply wps_loada (T := 52) (k := 4) S 0); (case hx | hi => rfl); (case hk => exact Nat.le_of_ble_eq_true rfl); (case hT => decide +kernel))
                  (refine wp_region_w (soft := [0, 2, 3, 4, 5]) S ?hm ?hB ?_); (case hm => kernel_rfl); (case hB => decide +kernel); clear S
                  iterate 5
                    (with_reducible apply softs_cons)
                    (case hw =>
                      (with_reducible apply soft_of); (case hi => rfl)
                      intro T wz S
                      simp only [List.cons_append, List.nil_append] at S
                      go_wp2_with first | ((with_reducible apply wps_load_el S 7 (hj := Hv.out) (q := 0) (u := .slice ai l.length ci)); (case hx | hi => rfl); (case hn => omega); (case hu => rfl); (case hT => decide +kernel)) | ((with_reducible refine tot_done ?ht ?_); (case ht => kernel_rfl))
                      exact ⟨rfl, S⟩)
                    (case hs => exact ⟨_, rfl, by kernel_rfl⟩)
                  refine softs_nil ?_
                  (with_reducible apply W_hard1 (i := 1)); (case hn => rfl); (case hr => decide +kernel)
                  intro wz S
                  (with_reducible apply hard_of); (case hi => rfl)
                  simp only [List.cons_append, List.nil_append] at S
                  go_wp2_with first | (go_at_call 17; have hcz := HS1.out _ _ _ (own_sl (sh := true) ecells (S.get (i := 2) rfl).choose_spec); (with_reducible refine Calls.mono hcz ?_); clear hcz; rintro e wz ⟨as1, ct1, rfl, T⟩; replace S := S.join T rfl; clear T; simp only [List.cons_append, List.nil_append] at S) | ((with_reducible refine tot_done ?ht ?_); (case ht => kernel_rfl))
                  refine ⟨_, S.pick [1, 2, 3, 4, 5, 6, 7, 8, 9, 10, 11, 12, 0] rfl, ?_⟩
                  clear S
                  (with_reducible apply W_hard1 (i := 6)); (case hn => rfl); (case hr => decide +kernel)
                  intro wz S
                  (with_reducible apply hard_of); (case hi => rfl)
                  simp only [List.cons_append, List.nil_append] at S
                  go_wp2_with first | (go_at_call 17; have hcz := HS2.out _ _ _ (S.get (i := 10) rfl).choose_spec; (with_reducible refine Calls.mono hcz ?_); clear hcz; rintro e wz ⟨as2, ct2, rfl, T⟩; replace S := S.join T rfl; clear T; simp only [List.cons_append, List.nil_append] at S) | ((with_reducible refine tot_done ?ht ?_); (case ht => kernel_rfl))
                  refine ⟨_, S.pick [1, 2, 3, 4, 5, 6, 7, 8, 9, 10, 11, 12, 13, 0] rfl, ?_⟩
                  clear S
                  (with_reducible apply W_hard1 (i := 7)); (case hn => rfl); (case hr => decide +kernel)
                  intro wz S
                  (with_reducible apply hard_of); (case hi => rfl)
                  simp only [List.cons_append, List.nil_append] at S
                  go_wp2_with first | (go_at_call 16; refine Calls.mono (HEs.out _ _ _ _ _ (own_sl (sh := true) ecells (S.get (i := 12) rfl).choose_spec) (own_sl (sh := true) ecells (S.get (i := 13) rfl).choose_spec)) ?_; rintro e wz ⟨rfl, hE⟩; replace S := S.ext (Keep.of_below hE); clear hE) | ((with_reducible refine tot_done ?ht ?_); (case ht => kernel_rfl))
                  refine ⟨_, S, ?_⟩
                  clear S
                  (refine W_mid (f := 4) (soft := [8, 9, 10, 11, 12, 13, 14, 15, 16, 17, 18, 20]) rfl ?hB ?_); (case hB => decide +kernel)
                  iterate 12
                    (with_reducible apply softs_cons)
                    (case hw =>
                      (with_reducible apply soft_of); (case hi => rfl)
                      intro T wz S
                      simp only [List.cons_append, List.nil_append] at S
                      go_wp2_with first | ((with_reducible apply wps_load S 6 (hu := Htj.out)); (case hx | hi => rfl); (case hT => decide +kernel)) | (go_at_call 9; refine Calls.mono (HTm.out _ _ (S.get (i := 9) rfl).choose_spec) ?_; rintro e wz ⟨rfl, hE⟩; replace S := S.ext (Keep.of_below hE); clear hE) | ((with_reducible refine tot_done ?ht ?_); (case ht => kernel_rfl))
                      exact ⟨rfl, S⟩)
                    (case hs => exact ⟨_, rfl, by kernel_rfl⟩)
                  refine softs_nil ?_
                  (with_reducible apply W_hard1 (i := 19)); (case hn => rfl); (case hr => decide +kernel)
                  intro wz S
                  (with_reducible apply hard_of); (case hi => rfl)
                  simp only [List.cons_append, List.nil_append] at S
                  go_wp2_with first | (go_at_call 8; refine Calls.mono (HST.out _ _ (S.get (i := 9) rfl).choose_spec) ?_; rintro e wz ⟨adg, cg, rfl, T⟩; replace S := S.join T rfl; clear T; simp only [List.cons_append, List.nil_append] at S) | ((with_reducible refine tot_done ?ht ?_); (case ht => kernel_rfl))
                  refine ⟨_, S.pick [1, 2, 3, 4, 5, 6, 7, 8, 9, 10, 11, 12, 13, 14, 0] rfl, ?_⟩
                  clear S
                  (with_reducible apply W_hard1 (i := 21)); (case hn => rfl); (case hr => decide +kernel)
                  intro wz S
                  (with_reducible apply hard_of); (case hi => rfl)
                  simp only [List.cons_append, List.nil_append] at S
                  go_wp2_with first | (go_at_call 13; refine Calls.mono (HSE.out _ _ _ _ _ (own_sl (sh := true) sacells (S.get (i := 14) rfl).choose_spec) (own_sl (sh := true) sacells (S.get (i := 3) rfl).choose_spec)) ?_; rintro e wz ⟨rfl, hE⟩; replace S := S.ext (Keep.of_below hE); clear hE) | ((with_reducible refine tot_done ?ht ?_); (case ht => kernel_rfl))
                  refine ⟨_, S, ?_⟩
                  clear S
                  (refine W_mid (f := 0) (soft := [22, 23]) rfl ?hB ?_); (case hB => decide +kernel)
                  iterate 2
                    (with_reducible apply softs_cons)
                    (case hw =>
                      (with_reducible apply soft_of); (case hi => rfl)
                      intro T wz S
                      simp only [List.cons_append, List.nil_append] at S
                      go_wp2_with first | ((with_reducible refine tot_done ?ht ?_); (case ht => kernel_rfl))
                      exact ⟨rfl, S⟩)
                    (case hs => exact ⟨_, rfl, by kernel_rfl⟩)
                  refine softs_nil ?_
                  (with_reducible apply W_done); (case hn => rfl); (case hr => decide +kernel)
                  intro wz S
                  repeat (first | simp only at S | simp only [pick] at S | simp only [nth] at S | simp only [List.set_cons_succ] at S | simp only [List.set_cons_zero] at S | simp only [List.setIfInBounds_toArray] at S | simp only [setAll] at S | simp only [List.cons_append] at S | simp only [List.nil_append] at S | simp only [List.append_nil] at S)
                  all_goals
                    as_aux_lemma =>
                      go_wp2_with first | ((with_reducible apply wps_loada (T := 52) (k := 4) S 0); (case hx | hi => rfl); (case hk => exact Nat.le_of_ble_eq_true rfl); (case hT => decide +kernel))
                      go_roundw
                      case rel => exact ⟨j + 1, G2, dk, hj1, by go_num, HDK, HSS2, HTM2, HGL2, HGZ2, S.pick [11, 1, 0, 3, 9, 4, 6, 7, 8, 5] rfl⟩
                      case measure => simp [intOf]; omega
              · have hn0 := hnk ((kk : Int) + 1) (by omega)
                clear hnk hkk hke hk
                as_aux_lemma =>
                  go_upto_region 34 with first | ((with_reducible apply wps_appends elem_Bat bvcells bvone (by decide) S 12 (j := 2)); (case hx | hy | hi | hj => rfl); (case hl => first | omega | (simp; omega)); clear S; intro az nz cz wz hnz S; simp only [List.set_cons_succ, List.set_cons_zero] at S)
                  replace S := S.pick [13, 3, 14, 4, 0, 1, 5, 6, 7, 8, 9, 10, 11, 12] rfl
                  simp only [pick, nth] at S
                  replace S := S.slsAppendS
                  replace S := S.pick [1, 2, 0, 3, 4, 5, 6, 7, 8, 9, 10, 11, 12] rfl
                  simp only [pick, nth] at S
                  replace S := S.slsAppendS
                  rw [← List.map_append, ← List.map_append, ← List.map_append, ← List.map_append] at S
                  generalize dn ++ lb = dk at *
                  clear hap hdn80
                  go_wp2_with first | ((with_reducible apply wps_loada (T := 52) (k := 4) S 0); (case hx | hi => rfl); (case hk => exact Nat.le_of_ble_eq_true rfl); (case hT => decide +kernel))
                  (refine wp_region_w (soft := [0, 2, 3, 4, 5]) S ?hm ?hB ?_); (case hm => kernel_rfl); (case hB => decide +kernel); clear S
                  iterate 5
                    (with_reducible apply softs_cons)
                    (case hw =>
                      (with_reducible apply soft_of); (case hi => rfl)
                      intro T wz S
                      simp only [List.cons_append, List.nil_append] at S
                      go_wp2_with first | ((with_reducible apply wps_load_el S 7 (hj := Hv.out) (q := 0) (u := .slice ai l.length ci)); (case hx | hi => rfl); (case hn => omega); (case hu => rfl); (case hT => decide +kernel)) | ((with_reducible refine tot_done ?ht ?_); (case ht => kernel_rfl))
                      exact ⟨rfl, S⟩)
                    (case hs => exact ⟨_, rfl, by kernel_rfl⟩)
                  refine softs_nil ?_
                  (with_reducible apply W_hard1 (i := 1)); (case hn => rfl); (case hr => decide +kernel)
                  intro wz S
                  (with_reducible apply hard_of); (case hi => rfl)
                  simp only [List.cons_append, List.nil_append] at S
                  go_wp2_with first | (go_at_call 17; have hcz := HS1.out _ _ _ (own_sl (sh := true) ecells (S.get (i := 2) rfl).choose_spec); (with_reducible refine Calls.mono hcz ?_); clear hcz; rintro e wz ⟨as1, ct1, rfl, T⟩; replace S := S.join T rfl; clear T; simp only [List.cons_append, List.nil_append] at S) | ((with_reducible refine tot_done ?ht ?_); (case ht => kernel_rfl))
                  refine ⟨_, S.pick [1, 2, 3, 4, 5, 6, 7, 8, 9, 10, 11, 12, 0] rfl, ?_⟩
                  clear S
                  (with_reducible apply W_hard1 (i := 6)); (case hn => rfl); (case hr => decide +kernel)
                  intro wz S
                  (with_reducible apply hard_of); (case hi => rfl)
                  simp only [List.cons_append, List.nil_append] at S
                  go_wp2_with first | (go_at_call 17; have hcz := HS2.out _ _ _ (S.get (i := 10) rfl).choose_spec; (with_reducible refine Calls.mono hcz ?_); clear hcz; rintro e wz ⟨as2, ct2, rfl, T⟩; replace S := S.join T rfl; clear T; simp only [List.cons_append, List.nil_append] at S) | ((with_reducible refine tot_done ?ht ?_); (case ht => kernel_rfl))
                  refine ⟨_, S.pick [1, 2, 3, 4, 5, 6, 7, 8, 9, 10, 11, 12, 13, 0] rfl, ?_⟩
                  clear S
                  (with_reducible apply W_hard1 (i := 7)); (case hn => rfl); (case hr => decide +kernel)
                  intro wz S
                  (with_reducible apply hard_of); (case hi => rfl)
                  simp only [List.cons_append, List.nil_append] at S
                  go_wp2_with first | (go_at_call 16; refine Calls.mono (HEs.out _ _ _ _ _ (own_sl (sh := true) ecells (S.get (i := 12) rfl).choose_spec) (own_sl (sh := true) ecells (S.get (i := 13) rfl).choose_spec)) ?_; rintro e wz ⟨rfl, hE⟩; replace S := S.ext (Keep.of_below hE); clear hE) | ((with_reducible refine tot_done ?ht ?_); (case ht => kernel_rfl))
                  refine ⟨_, S, ?_⟩
                  clear S
                  (refine W_mid (f := 4) (soft := [8, 9, 10, 11, 12, 13, 14, 15, 16, 17, 18, 20]) rfl ?hB ?_); (case hB => decide +kernel)
                  iterate 12
                    (with_reducible apply softs_cons)
                    (case hw =>
                      (with_reducible apply soft_of); (case hi => rfl)
                      intro T wz S
                      simp only [List.cons_append, List.nil_append] at S
                      go_wp2_with first | ((with_reducible apply wps_load S 6 (hu := Htj.out)); (case hx | hi => rfl); (case hT => decide +kernel)) | (go_at_call 9; refine Calls.mono (HTm.out _ _ (S.get (i := 9) rfl).choose_spec) ?_; rintro e wz ⟨rfl, hE⟩; replace S := S.ext (Keep.of_below hE); clear hE) | ((with_reducible refine tot_done ?ht ?_); (case ht => kernel_rfl))
                      exact ⟨rfl, S⟩)
                    (case hs => exact ⟨_, rfl, by kernel_rfl⟩)
                  refine softs_nil ?_
                  (with_reducible apply W_hard1 (i := 19)); (case hn => rfl); (case hr => decide +kernel)
                  intro wz S
                  (with_reducible apply hard_of); (case hi => rfl)
                  simp only [List.cons_append, List.nil_append] at S
                  go_wp2_with first | (go_at_call 8; refine Calls.mono (HST.out _ _ (S.get (i := 9) rfl).choose_spec) ?_; rintro e wz ⟨adg, cg, rfl, T⟩; replace S := S.join T rfl; clear T; simp only [List.cons_append, List.nil_append] at S) | ((with_reducible refine tot_done ?ht ?_); (case ht => kernel_rfl))
                  refine ⟨_, S.pick [1, 2, 3, 4, 5, 6, 7, 8, 9, 10, 11, 12, 13, 14, 0] rfl, ?_⟩
                  clear S
                  (with_reducible apply W_hard1 (i := 21)); (case hn => rfl); (case hr => decide +kernel)
                  intro wz S
                  (with_reducible apply hard_of); (case hi => rfl)
                  simp only [List.cons_append, List.nil_append] at S
                  go_wp2_with first | (go_at_call 13; refine Calls.mono (HSE.out _ _ _ _ _ (own_sl (sh := true) sacells (S.get (i := 14) rfl).choose_spec) (own_sl (sh := true) sacells (S.get (i := 3) rfl).choose_spec)) ?_; rintro e wz ⟨rfl, hE⟩; replace S := S.ext (Keep.of_below hE); clear hE) | ((with_reducible refine tot_done ?ht ?_); (case ht => kernel_rfl))
                  refine ⟨_, S, ?_⟩
                  clear S
                  (refine W_mid (f := 0) (soft := [22, 23]) rfl ?hB ?_); (case hB => decide +kernel)
                  iterate 2
                    (with_reducible apply softs_cons)
                    (case hw =>
                      (with_reducible apply soft_of); (case hi => rfl)
                      intro T wz S
                      simp only [List.cons_append, List.nil_append] at S
                      go_wp2_with first | ((with_reducible refine tot_done ?ht ?_); (case ht => kernel_rfl))
                      exact ⟨rfl, S⟩)
                    (case hs => exact ⟨_, rfl, by kernel_rfl⟩)
                  refine softs_nil ?_
                  (with_reducible apply W_done); (case hn => rfl); (case hr => decide +kernel)
                  intro wz S
                  repeat (first | simp only at S | simp only [pick] at S | simp only [nth] at S | simp only [List.set_cons_succ] at S | simp only [List.set_cons_zero] at S | simp only [List.setIfInBounds_toArray] at S | simp only [setAll] at S | simp only [List.cons_append] at S | simp only [List.nil_append] at S | simp only [List.append_nil] at S)
                  all_goals
                    as_aux_lemma =>
                      go_wp2_with first | ((with_reducible apply wps_loada (T := 52) (k := 4) S 0); (case hx | hi => rfl); (case hk => exact Nat.le_of_ble_eq_true rfl); (case hT => decide +kernel))
                      go_roundw
                      case rel => exact ⟨j + 1, G2, dk, hj1, by go_num, HDK, HSS2, HTM2, HGL2, HGZ2, S.pick [11, 1, 0, 3, 9, 4, 6, 7, 8, 5] rfl⟩
                      case measure => simp [intOf]; omega
    · obtain rfl : j = lss.length := by omega
      have hdn : G.done.length ≤ 300 := by have := HGL.out; omega
      have HGW : Hid (∀ b ∈ G.done, b.ins.length ≤ 4294967296 ∧ b.sent.length ≤ 4294967296) := Lib.hid fun b hb => by have := HGZ.out b hb; omega
      go_wp2_with first | (go_at_call 19; refine Calls.mono (listed_calls X R G _ _ (S.get (i := 4) rfl).choose_spec hdn HGW.out) ?_; rintro e wz ⟨ap, cp1, l1, rfl, hl1, T⟩; have HL1 := Lib.hid hl1; clear hl1; replace S := S.join T rfl; clear T; simp only [List.cons_append, List.nil_append] at S) | (go_at_call 18; have hcz := btseq_calls _ _ l1 dn _ _ _ _ _ _ _ (own_sl (sh := true) bvcells (S.get (i := 0) rfl).choose_spec) (own_sl (sh := true) bvcells (S.get (i := 3) rfl).choose_spec) (S.get (i := 1) rfl).choose_spec (S.get (i := 2) rfl).choose_spec (S.get (i := 4) rfl).choose_spec (S.get (i := 5) rfl).choose_spec (HL1.out.trans HDN.out.symm) (by have := congrArg List.length HL1.out; rw [List.length_map] at this; omega) (fun x hx => by have := HGZ.out x.b (by rw [← HL1.out]; exact List.mem_map.2 ⟨x, hx, rfl⟩); omega); (with_reducible refine Calls.mono hcz ?_); clear hcz; rintro e wz ⟨rfl, hE⟩; replace S := S.ext (Keep.of_below hE); clear hE) | (go_at_call 6; refine Calls.mono (awake16_calls _ _ (S.get (i := 12) rfl).choose_spec) ?_; rintro e wz ⟨rfl, hE⟩; replace S := S.ext (Keep.of_below hE); clear hE)
      go_ret
      exact ⟨rfl, S.below⟩
end Go.Proofs.YtemgonomenjjaaaGreatDoor

import Derived.Test.YtemgonomenjjaaaGreatDoorR19
import Derived.Test.YtemgonomenjjaaaGreatDoorR23
import Derived.Test.YtemgonomenjjaaaGreatDoorR31
import Derived.Test.YtemgonomenjjaaaGreatDoorR33
/- The walk of the law FossilSeq. -/
namespace Go.Proofs.YtemgonomenjjaaaGreatDoor
open Go Go.RowKit Reg Mem

/-- The log of a simulation's batches below a time. -/
def logAt (c : Cfg) (bs : List BatE) (was : Int) : LogE := ⟨(partB 0 was bs).foldl setst (newL c).ss, was, partB 0 was bs⟩
theorem logAt_new (c : Cfg) (bs : List BatE) : logAt c bs 0 = newL c := by
  unfold logAt
  rw [part_nil]
  rfl
theorem setst_lenE : ∀ (bs : List BatE) (ss : List State), (bs.foldl setst ss).length = ss.length
  | [], _ => rfl
  | b :: bs, ss => by rw [List.foldl_cons, setst_lenE bs]; simp [setst]
theorem logAt_len (c : Cfg) (bs : List BatE) (was : Int) : (logAt c bs was).ss.length = c.lps.length := by
  unfold logAt
  rw [setst_lenE]; simp [newL]
theorem part_le (was below : Int) (bs : List BatE) : (partB was below bs).length ≤ bs.length := List.length_filter_le _ _
theorem drop_part {bs : List BatE} {k : Nat} {b : BatE} (was below : Int) (h : bs[k]? = some b) : partB was below (bs.drop k) = (if was ≤ b.at_ ∧ b.at_ < below then [b] else []) ++ partB was below (bs.drop (k + 1)) := by
  obtain ⟨h1, rfl⟩ := List.getElem?_eq_some_iff.1 h
  rw [List.drop_eq_getElem_cons h1]
  unfold partB
  split
  · rename_i g; rw [List.filter_cons_of_pos (by simpa using g)]; rfl
  · rename_i g; rw [List.filter_cons_of_neg (by simpa using g)]; rfl
def SeRel1 (X R : Nat) (vs hs : List Value) (c : Cfg) (bs : List BatE) (ss' : List State) (sv bv : Value) (lb : List BatV) (cv : Value) (cuts : List Int) (w : World) (av wv i : Value) (wr : World) : Prop :=
  ∃ (j : Nat) (was : Int) (al : List BatV), j ≤ cuts.length + 1 ∧ i = .int .i64 j ∧ wv = .int .i64 was ∧ Hid (0 ≤ was ∧ was ≤ c.fin + 1) ∧ Hid (j = cuts.length + 1 → was = c.fin + 1) ∧ Hid (al.map (·.b) = partB 0 was bs) ∧
    St (fun _ => False) w wr [Mem.Own 54 BatV.cells 8 av al, Sls true Event.cells 7 (al.map BatV.vi) (al.map fun x : BatV => x.b.ins), Sls true Event.cells 7 (al.map BatV.vo) (al.map fun x : BatV => x.b.sent), logA X R (logAt c bs was), Sl true State.cells 4 sv ss', Sl true BatV.cells 8 bv lb, Sls true Event.cells 7 (lb.map BatV.vi) (lb.map fun x : BatV => x.b.ins), Sls true Event.cells 7 (lb.map BatV.vo) (lb.map fun x : BatV => x.b.sent), ModA true 84 R vs hs c, Sl true intE 1 cv cuts, Tab]
def SeRel2 (L : List Asn) (lb : List BatV) (bs : List BatE) (was bl : Int) (w : World) (pv i : Value) (wr : World) : Prop :=
  ∃ (z : Int) (jj : Nat) (pl : List Event), jj ≤ lb.length ∧ i = .int .i64 z ∧ Hid (z + 1 = jj) ∧ Hid (pl.Perm ((partB was bl (bs.drop jj)).flatMap (·.ins))) ∧ pl.length ≤ 256 * (lb.length - jj) ∧
    St (fun _ => False) w wr (Mem.Own 78 Event.cells 7 pv pl :: L)
set_option maxRecDepth 100000 in
set_option maxHeartbeats 32000000 in
theorem fossilSeq_calls (vs hs : List Value) (c : Cfg) (cv : Value) (cuts : List Int) (w : World) (F F2 F3 : Nat → Prop) (h : (CfgA true vs hs c).at_ w F) (hw : Wide c) (hwb : WideB c) (h2 : (Sl true intE 1 cv cuts).at_ w F2) (hlen : cuts.length ≤ 9223372036854775807) (ht : Tab.at_ w F3) :
    Calls Tryz.prog 4 #[.agg vs.toArray, cv] w fun r w' => r = .returned (.bool true) ∧ Below w.heap.size w w' := by
  have S : St (fun _ => False) w w [CfgA true vs hs c, Sl true intE 1 cv cuts, Tab] := (((St.init _ w).share rfl rfl ht).share (A := Sl true intE 1 cv cuts) rfl rfl h2).share rfl rfl h
  clear h h2 ht
  obtain ⟨ad, cp, rfl, _⟩ := (S.sl 1 rfl).elim fun _ h => h.form
  obtain ⟨aP, cP, aL, cL, aS, cS, rfl, _, _⟩ := S.cfg 0 rfl
  have HMd := Lib.hid fun w F F2 h ht => made_calls [.slice aP c.programs.length cP, .slice aL c.lps.length cL, .slice aS c.starts.length cS, .int .i64 c.fin, .int .i64 c.fuel, .int .i64 c.fan] hs c w F F2 h hw hwb ht
  clear hw hwb
  go_enter Tryz.func4, Tryz.ntmps4
  go_wp2_with first | ((with_reducible apply wps_boxa (E := 26) S); (case hx => rfl); clear S; intro bx wz S) | ((with_reducible apply wps_loada (T := 26) (k := 6) S 0); (case hx | hi => rfl); (case hk => exact Nat.le_of_ble_eq_true rfl); (case hT => decide +kernel))
  refine Calls.mono (HMd.out _ _ _ (S.get (i := 1) rfl).choose_spec (S.get (i := 3) rfl).choose_spec) ?_
  clear HMd
  rintro r wz ⟨pv, vs2, hs2, rfl, (⟨hm, rfl, T⟩ | ⟨hm, R, vs3, hs3, rfl, T⟩)⟩
  · replace S := ((S.join T rfl).cfgShare 0 rfl).pick [0, 1, 2, 3, 4] rfl
    repeat (first | simp only at S | simp only [pick] at S | simp only [nth] at S | simp only [List.set_cons_succ] at S | simp only [List.set_cons_zero] at S | simp only [List.setIfInBounds_toArray] at S | simp only [setAll] at S | simp only [List.cons_append] at S | simp only [List.nil_append] at S | simp only [List.append_nil] at S)
    clear T hm
    obtain ⟨aP2, cP2, aL2, cL2, aS2, cS2, rfl, _, _⟩ := S.cfg 0 rfl
    go_wp2_with first | ((with_reducible apply wps_alloca (E := 34) S); (case hz => exact Tryz.zeroValue34); clear S; intro b6 wz S) | ((with_reducible apply wps_storea (T := 34) S 0 (vs := [.slice aP2 c.programs.length cP2, .slice aL2 c.lps.length cL2, .slice aS2 c.starts.length cS2, .int .i64 c.fin, .int .i64 c.fuel, .int .i64 c.fan]) (m := 6)); (case hx | hy | hi | hm | h1 => rfl); (case hn => exact Nat.le_of_ble_eq_true rfl); (case hT => decide +kernel); clear S; intro wz S; simp only [List.set_cons_zero, List.set_cons_succ, setAll, List.setIfInBounds_toArray] at S) | (go_at_call 6; refine Calls.mono (awake16_calls _ _ (S.get (i := 5) rfl).choose_spec) ?_; rintro e wz ⟨rfl, hE⟩; replace S := S.ext (Keep.of_below hE); clear hE)
    go_ret
    exact ⟨rfl, S.below⟩
  replace S := (((S.join T rfl).modShare 0 rfl).cfgShare 1 rfl).pick [0, 1, 2, 3, 4, 5] rfl
  repeat (first | simp only at S | simp only [pick] at S | simp only [nth] at S | simp only [List.set_cons_succ] at S | simp only [List.set_cons_zero] at S | simp only [List.setIfInBounds_toArray] at S | simp only [setAll] at S | simp only [List.cons_append] at S | simp only [List.nil_append] at S | simp only [List.append_nil] at S)
  clear T
  obtain ⟨aP2, cP2, aL2, cL2, aS2, cS2, rfl, _, _⟩ := S.cfg 1 rfl
  have hfw : fewB c = true ∧ cfgE c = 0 := by unfold madeB at hm; rw [Bool.and_eq_true, decide_eq_true_eq] at hm; exact hm
  have HC := Lib.hid hfw.2
  have hcn : c.lps.length ≤ 32 := by have := (cfg_isfine hfw.2).sizes; unfold sizesOk at this; omega
  have hfin : 1 ≤ c.fin ∧ c.fin ≤ 1073741824 := by have := (cfg_isfine hfw.2).sizes; unfold sizesOk at this; omega
  have hst : c.starts.length ≤ 256 := (cfg_isfine hfw.2).starts
  clear hm hfw
  by_cases h20 : cuts.length ≤ 20
  case neg =>
    have f2 : decide ((20 : Int) < cuts.length) = true := decide_eq_true (by omega)
    clear hfin
    go_wp2_with first | ((with_reducible apply wps_alloca (E := 34) S); (case hz => exact Tryz.zeroValue34); clear S; intro b6 wz S) | ((with_reducible apply wps_storea (T := 34) S 0 (vs := [.slice aP2 c.programs.length cP2, .slice aL2 c.lps.length cL2, .slice aS2 c.starts.length cS2, .int .i64 c.fin, .int .i64 c.fuel, .int .i64 c.fan]) (m := 6)); (case hx | hy | hi | hm | h1 => rfl); (case hn => exact Nat.le_of_ble_eq_true rfl); (case hT => decide +kernel); clear S; intro wz S; simp only [List.set_cons_zero, List.set_cons_succ, setAll, List.setIfInBounds_toArray] at S) | (go_at_call 6; refine Calls.mono (awake16_calls _ _ (S.get (i := 6) rfl).choose_spec) ?_; rintro e wz ⟨rfl, hE⟩; replace S := S.ext (Keep.of_below hE); clear hE)
    go_ret
    exact ⟨rfl, S.below⟩
  have f2 : decide ((20 : Int) < cuts.length) = false := decide_eq_false (by omega)
  have HFI := Lib.hid hfin
  clear hfin
  go_upto_region 4 with first | ((with_reducible apply wps_alloca (E := 34) S); (case hz => exact Tryz.zeroValue34); clear S; intro b6 wz S) | ((with_reducible apply wps_storea (T := 34) S 0 (vs := [.slice aP2 c.programs.length cP2, .slice aL2 c.lps.length cL2, .slice aS2 c.starts.length cS2, .int .i64 c.fin, .int .i64 c.fuel, .int .i64 c.fan]) (m := 6)); (case hx | hy | hi | hm | h1 => rfl); (case hn => exact Nat.le_of_ble_eq_true rfl); (case hT => decide +kernel); clear S; intro wz S; simp only [List.set_cons_zero, List.set_cons_succ, setAll, List.setIfInBounds_toArray] at S)
  replace S := S.pick [1, 5, 6] rfl
  simp only [pick, nth] at S
  clear f2
  have HSM := Lib.hid fun (w : World) (F F3 : Nat → Prop) (h : (ModA true 84 R vs3 hs3 c).at_ w F) (ht : Tab.at_ w F3) => small_calls R vs3 hs3 c w F F3 h ht HC.out hst
  obtain ⟨o, ho⟩ : ∃ o, smallE c 60 (newE c) = o := ⟨_, rfl⟩
  rw [ho] at HSM
  cases o with
  | none =>
    have HSN : Hid (∀ (w : World) (F F3 : Nat → Prop) (h : (ModA true 84 R vs3 hs3 c).at_ w F) (ht : Tab.at_ w F3), Calls Tryz.prog 20 #[.pointer (some ⟨R, 0, none⟩)] w fun e w' => e = .returned (.tuple #[.slice none 0 0, .slice none 0 0, .bool false]) ∧ Below w.heap.size w w') := Lib.hid fun w F F3 h ht => (HSM.out w F F3 h ht).mono fun e w' hp => by
      rcases hp with ⟨_, he, hb⟩ | ⟨_, _, _, _, _, _, _, h1, _⟩
      · exact ⟨he, hb⟩
      · cases h1
    clear HSM ho hst
    go_wp2_with first | (go_at_call 20; refine Calls.mono (HSN.out _ _ _ (S.get (i := 0) rfl).choose_spec (S.get (i := 2) rfl).choose_spec) ?_; rintro e wz ⟨rfl, hE⟩; replace S := S.ext (Keep.of_below hE); clear hE) | (go_at_call 7; refine Calls.mono (lnew_calls R vs3 hs3 c _ _ (S.get (i := 0) rfl).choose_spec hcn) ?_; rintro e wz ⟨X, rfl, T⟩; replace S := S.join T rfl; clear T; simp only [List.cons_append, List.nil_append] at S) | (go_at_call 6; refine Calls.mono (awake16_calls _ _ (S.get (i := 3) rfl).choose_spec) ?_; rintro e wz ⟨rfl, hE⟩; replace S := S.ext (Keep.of_below hE); clear hE)
    go_ret
    exact ⟨rfl, S.below⟩
  | some p =>
    obtain ⟨bs, s'⟩ := p
    have hok := (small_ok (new_ok (cfg_isfine HC.out)) ho).1
    have hsz := small_sz HC.out (SmK.new hst) ho
    have hbn := small_fuel ho
    obtain ⟨ss', hss'⟩ : ∃ x, s'.ss = x := ⟨_, rfl⟩
    have HSN : Hid (∀ (w : World) (F F3 : Nat → Prop) (h : (ModA true 84 R vs3 hs3 c).at_ w F) (ht : Tab.at_ w F3), Calls Tryz.prog 20 #[.pointer (some ⟨R, 0, none⟩)] w fun e w' => ∃ (a : Option Addr) (cp : Nat) (l : List BatV) (a2 : Option Addr) (c2 : Nat), e = .returned (.tuple #[.slice a bs.length cp, .slice a2 ss'.length c2, .bool true]) ∧ l.map (·.b) = bs ∧
        St (fun _ => False) w w' [Mem.Own 52 State.cells 4 (.slice a2 ss'.length c2) ss', Mem.Own 54 BatV.cells 8 (.slice a bs.length cp) l, Sls false Event.cells 7 (l.map (·.vi)) (l.map (·.b.ins)), Sls false Event.cells 7 (l.map (·.vo)) (l.map (·.b.sent))]) := Lib.hid fun w F F3 h ht => (HSM.out w F F3 h ht).mono fun e w' hp => by
      rcases hp with ⟨h1, _⟩ | ⟨bs2, s2, a, cp, l, a2, c2, h1, h2, h3, h4⟩
      · cases h1
      · cases h1
        rw [hss'] at h2 h4
        exact ⟨a, cp, l, a2, c2, h2, h3, h4⟩
    rw [hss', show (newE c).ss = (newL c).ss from rfl] at hok
    have HOK := Lib.hid hok
    have HSZ := Lib.hid hsz
    clear HSM ho hst hok hsz hss'
    go_upto_region 5 with first | (go_at_call 20; refine Calls.mono (HSN.out _ _ _ (S.get (i := 0) rfl).choose_spec (S.get (i := 2) rfl).choose_spec) ?_; rintro e wz ⟨ab, cb, lb, asv, csv, rfl, hlb, T⟩; (have hq1 : bs.length = lb.length := (by rw [← hlb, List.length_map])); rw [hq1] at T ⊢; clear hq1; have HLB := Lib.hid hlb; clear hlb; replace S := S.join T rfl; clear T; simp only [List.cons_append, List.nil_append] at S)
    have hlb60 : lb.length ≤ 60 := by have h1 := congrArg List.length HLB.out; rw [List.length_map] at h1; omega
    clear HSN hbn
    go_upto_region 8 with first | (go_at_call 7; refine Calls.mono (lnew_calls R vs3 hs3 c _ _ (S.get (i := 4) rfl).choose_spec hcn) ?_; rintro e wz ⟨X, rfl, T⟩; replace S := S.join T rfl; clear T; simp only [List.cons_append, List.nil_append] at S)
    replace S := (S.freeze true 1 sacells rfl).freeze true 2 bvcells rfl
    simp only [List.set_cons_zero, List.set_cons_succ] at S
    replace S := S.weak (i := 3) (A' := Sls true Event.cells 7 (lb.map BatV.vi) (lb.map fun x : BatV => x.b.ins)) rfl (fun e => by cases e) (fun F h => ⟨F, fun _ hb => hb, h⟩)
    simp only [List.set_cons_zero, List.set_cons_succ] at S
    replace S := S.weak (i := 4) (A' := Sls true Event.cells 7 (lb.map BatV.vo) (lb.map fun x : BatV => x.b.sent)) rfl (fun e => by cases e) (fun F h => ⟨F, fun _ hb => hb, h⟩)
    simp only [List.set_cons_zero, List.set_cons_succ] at S
    replace S := (((S.slsNil Event.cells 7).slsNil Event.cells 7).nil 54 BatV.cells 8)
    replace S := S.weak (i := 1) (A' := Sls true Event.cells 7 (([] : List BatV).map BatV.vi) (([] : List BatV).map fun x : BatV => x.b.ins)) rfl (fun e => by cases e) (fun F h => ⟨F, fun _ hb => hb, h⟩)
    simp only [List.set_cons_zero, List.set_cons_succ] at S
    replace S := S.weak (i := 2) (A' := Sls true Event.cells 7 (([] : List BatV).map BatV.vo) (([] : List BatV).map fun x : BatV => x.b.sent)) rfl (fun e => by cases e) (fun F h => ⟨F, fun _ hb => hb, h⟩)
    simp only [List.set_cons_zero, List.set_cons_succ] at S
    rw [← logAt_new c bs] at S
    go_wp2_with first | ((with_reducible apply wps_loada (T := 26) (k := 6) S 0); (case hx | hi => rfl); (case hk => exact Nat.le_of_ble_eq_true rfl); (case hT => decide +kernel))
    go_loopw [12, 13, 14] (fun av wv i wr => SeRel1 X R vs3 hs3 c bs ss' (.slice asv ss'.length csv) (.slice ab lb.length cb) lb (.slice ad cuts.length cp) cuts w av wv i wr) (fun _ _ i _ => cuts.length + 1 - (intOf i).toNat)
    case atStart => exact ⟨0, 0, [], by omega, rfl, rfl, Lib.hid ⟨Int.le_refl _, by have := HFI.out; omega⟩, Lib.hid (fun h => by omega), Lib.hid (by rw [part_nil]; rfl), S⟩
    case round =>
      clear S
      obtain ⟨j, was, al, hj, rfl, rfl, HWA, HWJ, HAL, S⟩ := hrel
      obtain ⟨ala, cla, rfl, _⟩ := (S.ownsl bvcells 0 rfl).elim fun _ h => h.form
      by_cases hjl : j ≤ cuts.length
      case neg =>
        have hje : j = cuts.length + 1 := by omega
        have hwe : was = c.fin + 1 := HWJ.out hje
        have hge : ¬ ((j : Int) ≤ cuts.length) := by omega
        have hdone : (logAt c bs was).done = bs := by rw [hwe]; exact part_all HOK.out.times
        have hss : (logAt c bs was).ss = ss' := by
          show (partB 0 was bs).foldl setst (newL c).ss = ss'
          rw [hwe, part_all HOK.out.times]; exact HOK.out.runs.fin
        have hall : al.map (·.b) = bs := by rw [HAL.out, hwe]; exact part_all HOK.out.times
        generalize logAt c bs was = G at *
        have hss6 : ss'.length ≤ 65536 := by have := HOK.out.runs.fin; rw [← this, setst_lenE]; simp [newL]; omega
        have hdn : G.done.length ≤ 300 := by rw [hdone, ← HLB.out, List.length_map]; omega
        have hgw : ∀ b ∈ G.done, b.ins.length ≤ 4294967296 ∧ b.sent.length ≤ 4294967296 := fun b hb => by rw [hdone] at hb; have := HSZ.out b hb; omega
        have HBA := Lib.hid fun (v1 v2 : Value) (w : World) (F1 F2 F3 F4 F5 F6 : Nat → Prop) h1 h2 h3 h4 h5 h6 => btseq_calls v1 v2 al lb w F1 F2 F3 F4 F5 F6 h1 h2 h3 h4 h5 h6 (hall.trans HLB.out.symm) (by have h1 := congrArg List.length (hall.trans HLB.out.symm); rw [List.length_map, List.length_map] at h1; omega) (fun x hx => by have := HSZ.out x.b (by rw [← hall]; exact List.mem_map.2 ⟨x, hx, rfl⟩); omega)
        have HLs := Lib.hid fun (w : World) (F : Nat → Prop) (h : (logA X R G).at_ w F) => listed_calls X R G w F h hdn hgw
        have HST := Lib.hid fun (w : World) (F : Nat → Prop) (h : (logA X R G).at_ w F) => lstates_calls X R G w F h (by rw [hss]; exact hss6)
        rw [hss] at HST
        have HSE := Lib.hid fun (v1 v2 : Value) (w : World) (F1 F2 : Nat → Prop) (h1 : (Sl true State.cells 4 v1 ss').at_ w F1) (h2 : (Sl true State.cells 4 v2 ss').at_ w F2) => stseq_calls v1 v2 ss' w F1 F2 h1 h2 hss6
        have fl : ((G.done.length : Int) == (lb.length : Int)) = true := by rw [hdone, ← HLB.out, List.length_map]; simp
        have HD := Lib.hid hdone
        clear hje hwe hdone hss hall hss6 hdn hgw HWJ HWA HAL
        go_wp2_with first | (go_at_call 18; have hcz := HBA.out _ _ _ _ _ _ _ _ _ (own_sl (sh := true) bvcells (S.get (i := 0) rfl).choose_spec) (S.get (i := 5) rfl).choose_spec (S.get (i := 1) rfl).choose_spec (S.get (i := 2) rfl).choose_spec (S.get (i := 6) rfl).choose_spec (S.get (i := 7) rfl).choose_spec; (with_reducible refine Calls.mono hcz ?_); clear hcz; rintro e wz ⟨rfl, hE⟩; replace S := S.ext (Keep.of_below hE); clear hE) | (go_at_call 19; refine Calls.mono (HLs.out _ _ (S.get (i := 3) rfl).choose_spec) ?_; rintro e wz ⟨ap, cp1, l1, rfl, hl1, T⟩; have HL1 := Lib.hid hl1; clear hl1; replace S := S.join T rfl; clear T; simp only [List.cons_append, List.nil_append] at S) | (go_at_call 18; have hcz := btseq_calls _ _ l1 lb _ _ _ _ _ _ _ (own_sl (sh := true) bvcells (S.get (i := 0) rfl).choose_spec) (S.get (i := 8) rfl).choose_spec (S.get (i := 1) rfl).choose_spec (S.get (i := 2) rfl).choose_spec (S.get (i := 9) rfl).choose_spec (S.get (i := 10) rfl).choose_spec ((HL1.out.trans HD.out).trans HLB.out.symm) (by have h1 := congrArg List.length ((HL1.out.trans HD.out).trans HLB.out.symm); rw [List.length_map, List.length_map] at h1; omega) (fun x hx => by have := HSZ.out x.b (by rw [← HD.out, ← HL1.out]; exact List.mem_map.2 ⟨x, hx, rfl⟩); omega); (with_reducible refine Calls.mono hcz ?_); clear hcz; rintro e wz ⟨rfl, hE⟩; replace S := S.ext (Keep.of_below hE); clear hE) | (go_at_call 14; refine Calls.mono (llen_calls X R G _ _ (S.get (i := 6) rfl).choose_spec) ?_; rintro e wz ⟨rfl, hE⟩; replace S := S.ext (Keep.of_below hE); clear hE) | (go_at_call 8; refine Calls.mono (HST.out _ _ (S.get (i := 6) rfl).choose_spec) ?_; rintro e wz ⟨adg, cg, rfl, T⟩; replace S := S.join T rfl; clear T; simp only [List.cons_append, List.nil_append] at S) | (go_at_call 13; refine Calls.mono (HSE.out _ _ _ _ _ (own_sl (sh := true) sacells (S.get (i := 0) rfl).choose_spec) (S.get (i := 8) rfl).choose_spec) ?_; rintro e wz ⟨rfl, hE⟩; replace S := S.ext (Keep.of_below hE); clear hE) | (go_at_call 6; refine Calls.mono (awake16_calls _ _ (S.get (i := 14) rfl).choose_spec) ?_; rintro e wz ⟨rfl, hE⟩; replace S := S.ext (Keep.of_below hE); clear hE)
        go_ret
        exact ⟨rfl, S.below⟩
      have hjl2 : (j : Int) ≤ cuts.length := by omega
      have hfa : 1 ≤ c.fin := HFI.out.1
      have hfb : c.fin ≤ 1073741824 := HFI.out.2
      by_cases hlt : j < cuts.length
      case pos =>
        have hlt2 : (j : Int) < cuts.length := by omega
        obtain ⟨bl, hbl⟩ : ∃ x, cuts[j]? = some x := ⟨_, List.getElem?_eq_getElem hlt⟩
        obtain ⟨Rc, oc, rfl⟩ : ∃ R o, ad = some ⟨R, o, none⟩ := (S.sl 9 rfl).elim fun F h => h.head (by omega)
        have HWJ2 : Hid (j + 1 = cuts.length + 1 → was = c.fin + 1) := Lib.hid (fun h => by omega)
        have Hbl := Lib.hid hbl
        clear hbl
        by_cases h1 : bl < was
        case pos =>
          have g1 : decide (bl < was) = true := decide_eq_true h1
          clear h1
          go_wp2_with first | (go_at_call 21; refine Calls.mono (end_calls _ _ _ _ _ _ (S.get (i := 8) rfl).choose_spec) ?_; rintro e wz ⟨rfl, hE⟩; replace S := S.ext (Keep.of_below hE); clear hE) | ((with_reducible apply wps_load_el S 9 (hj := Hbl.out) (q := 0) (u := .int .i64 bl)); (case hx | hi => rfl); (case hn => omega); (case hu => rfl); (case hT => decide +kernel))
          go_roundw
          case rel => exact ⟨j + 1, was, al, by omega, by go_num, rfl, HWA, HWJ2, HAL, S⟩
          case measure => simp [intOf]; omega
        have g1 : decide (bl < was) = false := decide_eq_false h1
        by_cases h2 : c.fin + 1 < bl
        case pos =>
          have g2 : decide (c.fin + 1 < bl) = true := decide_eq_true h2
          clear h1 h2
          go_wp2_with first | (go_at_call 21; refine Calls.mono (end_calls _ _ _ _ _ _ (S.get (i := 8) rfl).choose_spec) ?_; rintro e wz ⟨rfl, hE⟩; replace S := S.ext (Keep.of_below hE); clear hE) | ((with_reducible apply wps_load_el S 9 (hj := Hbl.out) (q := 0) (u := .int .i64 bl)); (case hx | hi => rfl); (case hn => omega); (case hu => rfl); (case hT => decide +kernel))
          go_roundw
          case rel => exact ⟨j + 1, was, al, by omega, by go_num, rfl, HWA, HWJ2, HAL, S⟩
          case measure => simp [intOf]; omega
        have g2 : decide (c.fin + 1 < bl) = false := decide_eq_false h2
        have hb0 : was ≤ bl := by omega
        have hb1 : bl ≤ c.fin + 1 := by omega
        clear h1 h2 HWJ2
        as_aux_lemma =>
          have HP : Hid (∀ l : List Event, l.Perm ((partB was bl bs).flatMap (·.ins)) → Fine c.lps.length was bl l ∧ comL c (logAt c bs was) bl l = logAt c bs bl ∧ (timesL c (sortT l) (logAt c bs was).ss).2 = partB was bl bs) := Lib.hid fun l hp => by
            obtain ⟨h1, h2⟩ := seq_part HOK.out HFI.out.2 HWA.out.1 hb0 hb1 hp
            exact ⟨h1, h2 (logAt c bs was) rfl rfl⟩
          have HPS : Hid (partB 0 bl bs = partB 0 was bs ++ partB was bl bs) := Lib.hid (part_split HOK.out.ord was bl hb0 0 HWA.out.1)
          have HWA2 : Hid (0 ≤ bl ∧ bl ≤ c.fin + 1) := Lib.hid (by have := HWA.out; omega)
          go_upto_region 19 with first | (go_at_call 21; refine Calls.mono (end_calls _ _ _ _ _ _ (S.get (i := 8) rfl).choose_spec) ?_; rintro e wz ⟨rfl, hE⟩; replace S := S.ext (Keep.of_below hE); clear hE) | ((with_reducible apply wps_load_el S 9 (hj := Hbl.out) (q := 0) (u := .int .i64 bl)); (case hx | hi => rfl); (case hn => omega); (case hu => rfl); (case hT => decide +kernel))
          clear hb0 hb1 g1 g2
          replace S := S.nil 78 Event.cells 7
          go_loopw [16, 17] (fun pv i wr => SeRel2 [Mem.Own 54 BatV.cells 8 (.slice ala al.length cla) al, Sls true Event.cells 7 (al.map BatV.vi) (al.map fun x : BatV => x.b.ins), Sls true Event.cells 7 (al.map BatV.vo) (al.map fun x : BatV => x.b.sent), logA X R (logAt c bs was), Sl true State.cells 4 (.slice asv ss'.length csv) ss', Sl true BatV.cells 8 (.slice ab lb.length cb) lb, Sls true Event.cells 7 (lb.map BatV.vi) (lb.map fun x : BatV => x.b.ins), Sls true Event.cells 7 (lb.map BatV.vo) (lb.map fun x : BatV => x.b.sent), ModA true 84 R vs3 hs3 c, Sl true intE 1 (.slice (some ⟨Rc, oc, none⟩) cuts.length cp) cuts, Tab] lb bs was bl w pv i wr) (fun _ i _ => (intOf i + 1).toNat)
          case atStart => exact ⟨(lb.length : Int) - 1, lb.length, [], Nat.le_refl _, by go_num, Lib.hid (by omega), Lib.hid (by rw [List.drop_of_length_le (by rw [← HLB.out, List.length_map]; exact Nat.le_refl _)]; simp [partB]), by simp, S⟩
          case round =>
            clear S
            obtain ⟨z, jj, pl, hjj, rfl, HZ, HPP, hpl, S⟩ := hrel
            obtain ⟨pa, pc, rfl, _⟩ := (S.ownsl ecells 0 rfl).elim fun _ h => h.form
            have hpl2 : pl.length ≤ 15360 := by omega
            by_cases hz : 0 ≤ z
            · obtain ⟨k, rfl⟩ := Int.eq_ofNat_of_zero_le hz
              have hkl : k < lb.length := by have := HZ.out; omega
              have HJ : Hid (jj = k + 1) := Lib.hid (by have := HZ.out; omega)
              obtain ⟨x, hx⟩ : ∃ x, lb[k]? = some x := ⟨_, List.getElem?_eq_getElem hkl⟩
              have hb : bs[k]? = some x.b := by rw [← HLB.out, List.getElem?_map, hx]; rfl
              have hsx := HSZ.out x.b (List.mem_of_getElem? hb)
              have hdp := drop_part was bl hb
              obtain ⟨R1, o1, rfl⟩ : ∃ R o, ab = some ⟨R, o, none⟩ := (S.sl 6 rfl).elim fun F h => h.head (by omega)
              have hkl2 : (k : Int) < lb.length := by omega
              have HVI : Hid ((lb.map BatV.vi)[k]? = some (.slice x.ai x.b.ins.length x.ci)) := Lib.hid (by rw [List.getElem?_map, hx]; rfl)
              have HVB : Hid ((lb.map fun x : BatV => x.b.ins)[k]? = some x.b.ins) := Lib.hid (by rw [List.getElem?_map, hx]; rfl)
              have hpl3 : pl.length ≤ 256 * (lb.length - (k + 1)) := by have := HJ.out; rw [← this]; exact hpl
              have hpp := HPP.out
              rw [HJ.out] at hpp
              by_cases h1 : was ≤ x.b.at_
              · have f1 : decide (was ≤ x.b.at_) = true := decide_eq_true h1
                by_cases h2 : x.b.at_ < bl
                · have f2 : decide (x.b.at_ < bl) = true := decide_eq_true h2
                  have HPP2 : Hid ((pl ++ x.b.ins).Perm ((partB was bl (bs.drop k)).flatMap (·.ins))) := Lib.hid (by
                    rw [hdp, if_pos ⟨h1, h2⟩, List.flatMap_append]
                    simp only [List.flatMap_cons, List.flatMap_nil, List.append_nil]
                    exact (hpp.append_right _).trans List.perm_append_comm)
                  have hpl4 : (pl ++ x.b.ins).length ≤ 256 * (lb.length - k) := by rw [List.length_append]; omega
                  have hap : pl.length + x.b.ins.length ≤ 4294967296 := by omega
                  clear h1 h2 hdp hb hpp hpl3
                  replace S := S.slsEl 7 rfl HVI.out HVB.out
                  have Hx := Lib.hid hx
                  clear hx
                  go_wp2_with first | ((with_reducible apply wps_load_el S 7 (hj := Hx.out) (q := 0) (u := .int .i64 x.b.at_)); (case hx | hi => rfl); (case hn => omega); (case hu => rfl); (case hT => decide +kernel)) | ((with_reducible apply wps_load_el S 7 (hj := Hx.out) (q := 2) (u := .slice x.ai x.b.ins.length x.ci)); (case hx | hi => rfl); (case hn => omega); (case hu => rfl); (case hT => decide +kernel)) | ((with_reducible apply wps_appends elem_Ev ecells eone (by decide) S 1 (j := 0)); (case hx | hy | hi | hj => rfl); (case hl => first | omega | (simp; omega)); clear S; intro az nz cz wz hnz S; simp only [List.set_cons_succ, List.set_cons_zero] at S)
                  go_roundw
                  case rel => exact ⟨(k : Int) - 1, k, pl ++ x.b.ins, by omega, by go_num, Lib.hid (by omega), HPP2, hpl4, S.pick [1, 2, 3, 4, 5, 6, 7, 8, 9, 10, 11, 12] rfl⟩
                  case measure => first | (simp [intOf]; done) | (simp [intOf]; omega)
                · have f2 : decide (x.b.at_ < bl) = false := decide_eq_false h2
                  have HPP2 : Hid (pl.Perm ((partB was bl (bs.drop k)).flatMap (·.ins))) := Lib.hid (by
                    rw [hdp, if_neg (fun g => h2 g.2), List.nil_append]; exact hpp)
                  have hpl4 : pl.length ≤ 256 * (lb.length - k) := by omega
                  clear h1 h2 hdp hb hpp hpl3
                  have Hx := Lib.hid hx
                  clear hx
                  go_wp2_with first | ((with_reducible apply wps_load_el S 6 (hj := Hx.out) (q := 0) (u := .int .i64 x.b.at_)); (case hx | hi => rfl); (case hn => omega); (case hu => rfl); (case hT => decide +kernel))
                  go_roundw
                  case rel => exact ⟨(k : Int) - 1, k, pl, by omega, by go_num, Lib.hid (by omega), HPP2, hpl4, S⟩
                  case measure => first | (simp [intOf]; done) | (simp [intOf]; omega)
              · have f1 : decide (was ≤ x.b.at_) = false := decide_eq_false h1
                have HPP2 : Hid (pl.Perm ((partB was bl (bs.drop k)).flatMap (·.ins))) := Lib.hid (by
                  rw [hdp, if_neg (fun g => h1 g.1), List.nil_append]; exact hpp)
                have hpl4 : pl.length ≤ 256 * (lb.length - k) := by omega
                clear h1 hdp hb hpp hpl3
                have Hx := Lib.hid hx
                clear hx
                go_wp2_with first | ((with_reducible apply wps_load_el S 6 (hj := Hx.out) (q := 0) (u := .int .i64 x.b.at_)); (case hx | hi => rfl); (case hn => omega); (case hu => rfl); (case hT => decide +kernel))
                go_roundw
                case rel => exact ⟨(k : Int) - 1, k, pl, by omega, by go_num, Lib.hid (by omega), HPP2, hpl4, S⟩
                case measure => first | (simp [intOf]; done) | (simp [intOf]; omega)
            · obtain rfl : jj = 0 := by have := HZ.out; omega
              have hz2 : z < 0 := by omega
              have hp := HPP.out
              rw [List.drop_zero] at hp
              obtain ⟨hfi, hco, hti⟩ := HP.out pl hp
              have hbs60 : bs.length ≤ 60 := by rw [← HLB.out, List.length_map]; exact hlb60
              have hdl : (logAt c bs was).done.length ≤ 65536 := by have := part_le 0 was bs; show (partB 0 was bs).length ≤ 65536; omega
              have HCm := Lib.hid fun (w : World) (F : Nat → Prop) (S0 : St F w w [logA X R (logAt c bs was), Sl true Event.cells 7 (.slice pa pl.length pc) pl, ModA true 84 R vs3 hs3 c, Tab]) => commit_calls X R vs3 hs3 c (logAt c bs was) bl (.slice pa pl.length pc) pl w F S0 HC.out (by omega) (logAt_len c bs was) HWA.out.1 hdl hfi
              rw [hco, hti] at HCm
              have HTm : Hid (∀ (w : World) (F : Nat → Prop) (h : (logA X R (logAt c bs bl)).at_ w F), Calls Tryz.prog 9 #[.pointer (some ⟨X, 0, none⟩)] w fun e w' => e = .returned (.int .i64 bl) ∧ Below w.heap.size w w') := Lib.hid fun w F h => ltime_calls X R (logAt c bs bl) w F h
              have hpn := part_le was bl bs
              have hpn0 := part_le 0 was bs
              have hal60 : al.length ≤ 60 := by have h1 := congrArg List.length HAL.out; rw [List.length_map] at h1; omega
              have f8 : (bl != bl) = false := by simp
              clear hz hp hfi hco hti hdl hpn0 HPP HZ hjj hpl
              replace S := S.freeze true 0 ecells rfl
              simp only [List.set_cons_zero] at S
              go_upto_region 24 with first | (go_at_call 12; obtain ⟨Fz, hF, hBk⟩ := S.lend [4] [0, 9, 11] [0, 1, 2, 3, 5, 6, 7, 8, 9, 10, 11] rfl rfl rfl; simp only [List.cons_append, List.nil_append, pick, nth] at hF hBk; refine Calls.mono (HCm.out _ _ hF) ?_; rintro e wz ⟨ac, cc, lc, rfl, hlc, T⟩; (have hq1 : (partB was bl bs).length = lc.length := (by rw [← hlc, List.length_map])); rw [hq1] at T ⊢; rw [hq1] at hpn; clear hq1; have HLC := Lib.hid hlc; clear hlc; replace S := hBk _ _ T rfl; clear hBk hF T; simp only [List.cons_append, List.nil_append] at S)
              have hap : al.length + lc.length ≤ 4294967296 := by omega
              clear hpn hbs60 HCm
              replace S := S.freeze true 1 bvcells rfl
              simp only [List.set_cons_zero, List.set_cons_succ] at S
              replace S := S.weak (i := 2) (A' := Sls true Event.cells 7 (lc.map BatV.vi) (lc.map fun x : BatV => x.b.ins)) rfl (fun e => by cases e) (fun F h => ⟨F, fun _ hb => hb, h⟩)
              simp only [List.set_cons_zero, List.set_cons_succ] at S
              replace S := S.weak (i := 3) (A' := Sls true Event.cells 7 (lc.map BatV.vo) (lc.map fun x : BatV => x.b.sent)) rfl (fun e => by cases e) (fun F h => ⟨F, fun _ hb => hb, h⟩)
              simp only [List.set_cons_zero, List.set_cons_succ] at S
              go_wp2_with first | (go_at_call 9; refine Calls.mono (HTm.out _ _ (S.get (i := 0) rfl).choose_spec) ?_; rintro e wz ⟨rfl, hE⟩; replace S := S.ext (Keep.of_below hE); clear hE) | ((with_reducible apply wps_appends elem_Bat bvcells bvone (by decide) S 5 (j := 1)); (case hx | hy | hi | hj => rfl); (case hl => first | omega | (simp; omega)); clear S; intro az nz cz wz hnz S; simp only [List.set_cons_succ, List.set_cons_zero] at S)
              go_roundw
              case rel =>
                have S2 := S.pick [6, 2, 7, 3, 0, 5, 8, 9, 10, 11, 12, 13, 14] rfl
                simp only [pick, nth] at S2
                have S3 := S2.slsAppendT.pick [1, 2, 0, 3, 4, 5, 6, 7, 8, 9, 10, 11] rfl
                simp only [pick, nth] at S3
                have S4 := S3.slsAppendT
                rw [← List.map_append, ← List.map_append, ← List.map_append, ← List.map_append] at S4
                exact ⟨j + 1, bl, al ++ lc, by omega, by go_num, rfl, HWA2, Lib.hid (fun h => by omega), Lib.hid (by rw [List.map_append, HAL.out, HLC.out, HPS.out]), S4.pick [3, 1, 0, 2, 4, 5, 6, 7, 8, 9, 10] rfl⟩
              case measure => simp [intOf]; omega
      case neg =>
        have hje : j = cuts.length := by omega
        have hlt2 : ¬ ((j : Int) < cuts.length) := by omega
        have g1 : decide (c.fin + 1 < was) = false := decide_eq_false (by have := HWA.out; omega)
        have hb0 : was ≤ c.fin + 1 := HWA.out.2
        have hb1 : c.fin + 1 ≤ c.fin + 1 := Int.le_refl _
        have HJE := Lib.hid hje
        clear hje
        as_aux_lemma =>
          have HP : Hid (∀ l : List Event, l.Perm ((partB was (c.fin + 1) bs).flatMap (·.ins)) → Fine c.lps.length was (c.fin + 1) l ∧ comL c (logAt c bs was) (c.fin + 1) l = logAt c bs (c.fin + 1) ∧ (timesL c (sortT l) (logAt c bs was).ss).2 = partB was (c.fin + 1) bs) := Lib.hid fun l hp => by
            obtain ⟨h1, h2⟩ := seq_part HOK.out HFI.out.2 HWA.out.1 hb0 hb1 hp
            exact ⟨h1, h2 (logAt c bs was) rfl rfl⟩
          have HPS : Hid (partB 0 (c.fin + 1) bs = partB 0 was bs ++ partB was (c.fin + 1) bs) := Lib.hid (part_split HOK.out.ord was (c.fin + 1) hb0 0 HWA.out.1)
          have HWA2 : Hid (0 ≤ (c.fin + 1) ∧ (c.fin + 1) ≤ c.fin + 1) := Lib.hid (by have := HWA.out; omega)
          go_upto_region 19 with first | (go_at_call 21; refine Calls.mono (end_calls _ _ _ _ _ _ (S.get (i := 8) rfl).choose_spec) ?_; rintro e wz ⟨rfl, hE⟩; replace S := S.ext (Keep.of_below hE); clear hE)
          clear hb0 hb1 g1
          replace S := S.nil 78 Event.cells 7
          go_loopw [16, 17] (fun pv i wr => SeRel2 [Mem.Own 54 BatV.cells 8 (.slice ala al.length cla) al, Sls true Event.cells 7 (al.map BatV.vi) (al.map fun x : BatV => x.b.ins), Sls true Event.cells 7 (al.map BatV.vo) (al.map fun x : BatV => x.b.sent), logA X R (logAt c bs was), Sl true State.cells 4 (.slice asv ss'.length csv) ss', Sl true BatV.cells 8 (.slice ab lb.length cb) lb, Sls true Event.cells 7 (lb.map BatV.vi) (lb.map fun x : BatV => x.b.ins), Sls true Event.cells 7 (lb.map BatV.vo) (lb.map fun x : BatV => x.b.sent), ModA true 84 R vs3 hs3 c, Sl true intE 1 (.slice ad cuts.length cp) cuts, Tab] lb bs was (c.fin + 1) w pv i wr) (fun _ i _ => (intOf i + 1).toNat)
          case atStart => exact ⟨(lb.length : Int) - 1, lb.length, [], Nat.le_refl _, by go_num, Lib.hid (by omega), Lib.hid (by rw [List.drop_of_length_le (by rw [← HLB.out, List.length_map]; exact Nat.le_refl _)]; simp [partB]), by simp, S⟩
          case round =>
            clear S
            obtain ⟨z, jj, pl, hjj, rfl, HZ, HPP, hpl, S⟩ := hrel
            obtain ⟨pa, pc, rfl, _⟩ := (S.ownsl ecells 0 rfl).elim fun _ h => h.form
            have hpl2 : pl.length ≤ 15360 := by omega
            by_cases hz : 0 ≤ z
            · obtain ⟨k, rfl⟩ := Int.eq_ofNat_of_zero_le hz
              have hkl : k < lb.length := by have := HZ.out; omega
              have HJ : Hid (jj = k + 1) := Lib.hid (by have := HZ.out; omega)
              obtain ⟨x, hx⟩ : ∃ x, lb[k]? = some x := ⟨_, List.getElem?_eq_getElem hkl⟩
              have hb : bs[k]? = some x.b := by rw [← HLB.out, List.getElem?_map, hx]; rfl
              have hsx := HSZ.out x.b (List.mem_of_getElem? hb)
              have hdp := drop_part was (c.fin + 1) hb
              obtain ⟨R1, o1, rfl⟩ : ∃ R o, ab = some ⟨R, o, none⟩ := (S.sl 6 rfl).elim fun F h => h.head (by omega)
              have hkl2 : (k : Int) < lb.length := by omega
              have HVI : Hid ((lb.map BatV.vi)[k]? = some (.slice x.ai x.b.ins.length x.ci)) := Lib.hid (by rw [List.getElem?_map, hx]; rfl)
              have HVB : Hid ((lb.map fun x : BatV => x.b.ins)[k]? = some x.b.ins) := Lib.hid (by rw [List.getElem?_map, hx]; rfl)
              have hpl3 : pl.length ≤ 256 * (lb.length - (k + 1)) := by have := HJ.out; rw [← this]; exact hpl
              have hpp := HPP.out
              rw [HJ.out] at hpp
              by_cases h1 : was ≤ x.b.at_
              · have f1 : decide (was ≤ x.b.at_) = true := decide_eq_true h1
                by_cases h2 : x.b.at_ < (c.fin + 1)
                · have f2 : decide (x.b.at_ < (c.fin + 1)) = true := decide_eq_true h2
                  have HPP2 : Hid ((pl ++ x.b.ins).Perm ((partB was (c.fin + 1) (bs.drop k)).flatMap (·.ins))) := Lib.hid (by
                    rw [hdp, if_pos ⟨h1, h2⟩, List.flatMap_append]
                    simp only [List.flatMap_cons, List.flatMap_nil, List.append_nil]
                    exact (hpp.append_right _).trans List.perm_append_comm)
                  have hpl4 : (pl ++ x.b.ins).length ≤ 256 * (lb.length - k) := by rw [List.length_append]; omega
                  have hap : pl.length + x.b.ins.length ≤ 4294967296 := by omega
                  clear h1 h2 hdp hb hpp hpl3
                  replace S := S.slsEl 7 rfl HVI.out HVB.out
                  have Hx := Lib.hid hx
                  clear hx
                  go_wp2_with first | ((with_reducible apply wps_load_el S 7 (hj := Hx.out) (q := 0) (u := .int .i64 x.b.at_)); (case hx | hi => rfl); (case hn => omega); (case hu => rfl); (case hT => decide +kernel)) | ((with_reducible apply wps_load_el S 7 (hj := Hx.out) (q := 2) (u := .slice x.ai x.b.ins.length x.ci)); (case hx | hi => rfl); (case hn => omega); (case hu => rfl); (case hT => decide +kernel)) | ((with_reducible apply wps_appends elem_Ev ecells eone (by decide) S 1 (j := 0)); (case hx | hy | hi | hj => rfl); (case hl => first | omega | (simp; omega)); clear S; intro az nz cz wz hnz S; simp only [List.set_cons_succ, List.set_cons_zero] at S)
                  go_roundw
                  case rel => exact ⟨(k : Int) - 1, k, pl ++ x.b.ins, by omega, by go_num, Lib.hid (by omega), HPP2, hpl4, S.pick [1, 2, 3, 4, 5, 6, 7, 8, 9, 10, 11, 12] rfl⟩
                  case measure => first | (simp [intOf]; done) | (simp [intOf]; omega)
                · have f2 : decide (x.b.at_ < (c.fin + 1)) = false := decide_eq_false h2
                  have HPP2 : Hid (pl.Perm ((partB was (c.fin + 1) (bs.drop k)).flatMap (·.ins))) := Lib.hid (by
                    rw [hdp, if_neg (fun g => h2 g.2), List.nil_append]; exact hpp)
                  have hpl4 : pl.length ≤ 256 * (lb.length - k) := by omega
                  clear h1 h2 hdp hb hpp hpl3
                  have Hx := Lib.hid hx
                  clear hx
                  go_wp2_with first | ((with_reducible apply wps_load_el S 6 (hj := Hx.out) (q := 0) (u := .int .i64 x.b.at_)); (case hx | hi => rfl); (case hn => omega); (case hu => rfl); (case hT => decide +kernel))
                  go_roundw
                  case rel => exact ⟨(k : Int) - 1, k, pl, by omega, by go_num, Lib.hid (by omega), HPP2, hpl4, S⟩
                  case measure => first | (simp [intOf]; done) | (simp [intOf]; omega)
              · have f1 : decide (was ≤ x.b.at_) = false := decide_eq_false h1
                have HPP2 : Hid (pl.Perm ((partB was (c.fin + 1) (bs.drop k)).flatMap (·.ins))) := Lib.hid (by
                  rw [hdp, if_neg (fun g => h1 g.1), List.nil_append]; exact hpp)
                have hpl4 : pl.length ≤ 256 * (lb.length - k) := by omega
                clear h1 hdp hb hpp hpl3
                have Hx := Lib.hid hx
                clear hx
                go_wp2_with first | ((with_reducible apply wps_load_el S 6 (hj := Hx.out) (q := 0) (u := .int .i64 x.b.at_)); (case hx | hi => rfl); (case hn => omega); (case hu => rfl); (case hT => decide +kernel))
                go_roundw
                case rel => exact ⟨(k : Int) - 1, k, pl, by omega, by go_num, Lib.hid (by omega), HPP2, hpl4, S⟩
                case measure => first | (simp [intOf]; done) | (simp [intOf]; omega)
            · obtain rfl : jj = 0 := by have := HZ.out; omega
              have hz2 : z < 0 := by omega
              have hp := HPP.out
              rw [List.drop_zero] at hp
              obtain ⟨hfi, hco, hti⟩ := HP.out pl hp
              have hbs60 : bs.length ≤ 60 := by rw [← HLB.out, List.length_map]; exact hlb60
              have hdl : (logAt c bs was).done.length ≤ 65536 := by have := part_le 0 was bs; show (partB 0 was bs).length ≤ 65536; omega
              have HCm := Lib.hid fun (w : World) (F : Nat → Prop) (S0 : St F w w [logA X R (logAt c bs was), Sl true Event.cells 7 (.slice pa pl.length pc) pl, ModA true 84 R vs3 hs3 c, Tab]) => commit_calls X R vs3 hs3 c (logAt c bs was) (c.fin + 1) (.slice pa pl.length pc) pl w F S0 HC.out (by omega) (logAt_len c bs was) HWA.out.1 hdl hfi
              rw [hco, hti] at HCm
              have HTm : Hid (∀ (w : World) (F : Nat → Prop) (h : (logA X R (logAt c bs (c.fin + 1))).at_ w F), Calls Tryz.prog 9 #[.pointer (some ⟨X, 0, none⟩)] w fun e w' => e = .returned (.int .i64 (c.fin + 1)) ∧ Below w.heap.size w w') := Lib.hid fun w F h => ltime_calls X R (logAt c bs (c.fin + 1)) w F h
              have hpn := part_le was (c.fin + 1) bs
              have hpn0 := part_le 0 was bs
              have hal60 : al.length ≤ 60 := by have h1 := congrArg List.length HAL.out; rw [List.length_map] at h1; omega
              have f8 : ((c.fin + 1) != (c.fin + 1)) = false := by simp
              clear hz hp hfi hco hti hdl hpn0 HPP HZ hjj hpl
              replace S := S.freeze true 0 ecells rfl
              simp only [List.set_cons_zero] at S
              go_upto_region 24 with first | (go_at_call 12; obtain ⟨Fz, hF, hBk⟩ := S.lend [4] [0, 9, 11] [0, 1, 2, 3, 5, 6, 7, 8, 9, 10, 11] rfl rfl rfl; simp only [List.cons_append, List.nil_append, pick, nth] at hF hBk; refine Calls.mono (HCm.out _ _ hF) ?_; rintro e wz ⟨ac, cc, lc, rfl, hlc, T⟩; (have hq1 : (partB was (c.fin + 1) bs).length = lc.length := (by rw [← hlc, List.length_map])); rw [hq1] at T ⊢; rw [hq1] at hpn; clear hq1; have HLC := Lib.hid hlc; clear hlc; replace S := hBk _ _ T rfl; clear hBk hF T; simp only [List.cons_append, List.nil_append] at S)
              have hap : al.length + lc.length ≤ 4294967296 := by omega
              clear hpn hbs60 HCm
              replace S := S.freeze true 1 bvcells rfl
              simp only [List.set_cons_zero, List.set_cons_succ] at S
              replace S := S.weak (i := 2) (A' := Sls true Event.cells 7 (lc.map BatV.vi) (lc.map fun x : BatV => x.b.ins)) rfl (fun e => by cases e) (fun F h => ⟨F, fun _ hb => hb, h⟩)
              simp only [List.set_cons_zero, List.set_cons_succ] at S
              replace S := S.weak (i := 3) (A' := Sls true Event.cells 7 (lc.map BatV.vo) (lc.map fun x : BatV => x.b.sent)) rfl (fun e => by cases e) (fun F h => ⟨F, fun _ hb => hb, h⟩)
              simp only [List.set_cons_zero, List.set_cons_succ] at S
              go_wp2_with first | (go_at_call 9; refine Calls.mono (HTm.out _ _ (S.get (i := 0) rfl).choose_spec) ?_; rintro e wz ⟨rfl, hE⟩; replace S := S.ext (Keep.of_below hE); clear hE) | ((with_reducible apply wps_appends elem_Bat bvcells bvone (by decide) S 5 (j := 1)); (case hx | hy | hi | hj => rfl); (case hl => first | omega | (simp; omega)); clear S; intro az nz cz wz hnz S; simp only [List.set_cons_succ, List.set_cons_zero] at S)
              go_roundw
              case rel =>
                have S2 := S.pick [6, 2, 7, 3, 0, 5, 8, 9, 10, 11, 12, 13, 14] rfl
                simp only [pick, nth] at S2
                have S3 := S2.slsAppendT.pick [1, 2, 0, 3, 4, 5, 6, 7, 8, 9, 10, 11] rfl
                simp only [pick, nth] at S3
                have S4 := S3.slsAppendT
                rw [← List.map_append, ← List.map_append, ← List.map_append, ← List.map_append] at S4
                exact ⟨j + 1, (c.fin + 1), al ++ lc, by omega, by go_num, rfl, HWA2, Lib.hid (fun _ => rfl), Lib.hid (by rw [List.map_append, HAL.out, HLC.out, HPS.out]), S4.pick [3, 1, 0, 2, 4, 5, 6, 7, 8, 9, 10] rfl⟩
              case measure => simp [intOf]; omega
end Go.Proofs.YtemgonomenjjaaaGreatDoor

import Derived.Test.YtfiiaechippboaaDoorL26
import Derived.Test.YtfiiaechippboaaDoorL16
import Derived.Test.YtfiiaechippboaaDoorL09
import Derived.Test.YtfiiaechippboaaDoorL13
import Derived.Test.YtfiiaechippboaaDoorL07
import Derived.Test.YtfiiaechippboaaDoorL17
import Derived.Test.YtfiiaechippboaaDoorL23
/- The walks of the law's Made and timely. -/
namespace Go.Proofs.YtfiiaechippboaaDoor
open Go Go.RowKit Reg Mem

section
variable {G : Nat → Prop} {w0 w : World} {L : List Asn}
/-- A configuration out of parts that are owned. -/
theorem Mem.St.rcfgNew {vH vR vT : Value} {gs : List Hd} {c : Cfg} (S : St G w0 w (Own 86 hcell 1 vH gs :: Ows 123 Instr.cells 5 (gs.map Hd.val) c.programs :: Own 87 Place.cells 5 vR c.lps :: Own 97 Start.cells 4 vT c.starts :: L)) :
    St G w0 w (CfgA false [vH, vR, vT, .int .i64 c.fin, .int .i64 c.fuel, .int .i64 c.fan] (gs.map Hd.val) c :: L) := by
  have S1 := ((S.both rfl rfl).both rfl rfl).both rfl rfl
  have := S1.weak (i := 0) (A' := CfgA false [vH, vR, vT, .int .i64 c.fin, .int .i64 c.fuel, .int .i64 c.fan] (gs.map Hd.val) c) rfl (fun _ => rfl) fun F h => ?_
  · simpa using this
  · obtain ⟨F3, F4, ⟨F5, F6, ⟨F7, F8, h1, h2, e4⟩, h3, e3⟩, h4, e2⟩ := h
    have i1 : ∀ b, F7 b → F b := fun b h => (e2 b).2 (.inl ((e3 b).2 (.inl ((e4 b).2 (.inl h)))))
    have i2 : ∀ b, F8 b → F b := fun b h => (e2 b).2 (.inl ((e3 b).2 (.inl ((e4 b).2 (.inr h)))))
    have i3 : ∀ b, F6 b → F b := fun b h => (e2 b).2 (.inl ((e3 b).2 (.inr h)))
    have i4 : ∀ b, F4 b → F b := fun b h => (e2 b).2 (.inr h)
    have k1 := own_sl (sh := true) hcells h1
    have k3 := own_sl (sh := true) plcells h3
    have k4 := own_sl (sh := true) stcells h4
    have k1' : (Sl true vcell 1 vH (gs.map Hd.val)).at_ w F7 := ⟨slat_map Hd.val (fun _ => rfl) k1.1, k1.2⟩
    refine ⟨F, fun _ h => h, ⟨⟨⟨vH, vR, vT, rfl, k1'.1.mono i1, k3.1.mono i3, k4.1.mono i4⟩, (ows_sls incells h2).1.mono i2⟩, fun b hb => ?_⟩⟩
    rcases (e2 b).1 hb with h | h
    · rcases (e3 b).1 h with h | h
      · rcases (e4 b).1 h with h | h
        · exact k1.2 b h
        · exact h2.2 b h
      · exact k3.2 b h
    · exact k4.2 b h
end
def timelyB (l : List Event) : Bool := decide (∀ x ∈ l, 0 ≤ x.key.at_ ∧ x.key.at_ ≤ 1073741824) && decide (l.length ≤ 20)
def TmRel (v : Value) (l : List Event) (w : World) (i : Value) (wr : World) : Prop :=
  ∃ j : Nat, j ≤ l.length ∧ i = .int .i64 j ∧ Hid (∀ (q : Nat) y, q < j → l[q]? = some y → 0 ≤ y.key.at_ ∧ y.key.at_ ≤ 1073741824) ∧ St (fun _ => False) w wr [Sl true Event.cells 7 v l]
set_option maxRecDepth 100000 in
set_option maxHeartbeats 4000000 in
theorem timely_calls (v : Value) (l : List Event) (w : World) (F : Nat → Prop) (h : (Sl true Event.cells 7 v l).at_ w F) (hn : l.length ≤ 9223372036854775807) : Calls Tryd.prog 10 #[v] w fun r w' => r = .returned (.bool (timelyB l)) ∧ Below w.heap.size w w' := by
  have S : St (fun _ => False) w w [Sl true Event.cells 7 v l] := (St.init _ w).share rfl rfl h
  obtain ⟨ad, cp, rfl, _⟩ := (S.sl 0 rfl).elim fun _ h => h.form
  clear h
  have HN : Hid (∀ x ∈ l, ¬ (0 ≤ x.key.at_ ∧ x.key.at_ ≤ 1073741824) → timelyB l = false) := fun x hx hq => by
    unfold timelyB; rw [decide_eq_false (fun h => hq (h x hx))]; rfl
  have HY : Hid (∀ (h : ∀ x ∈ l, 0 ≤ x.key.at_ ∧ x.key.at_ ≤ 1073741824), timelyB l = decide (l.length ≤ 20)) := fun h => by
    unfold timelyB; rw [decide_eq_true h]; rfl
  go_enter Tryd.func10, Tryd.ntmps10
  go_wp2_with first | ((with_reducible apply wps_load S 0); (case hx | hi | hu => rfl); (case hT => decide +kernel))
  go_loopw [3] (fun i wr => TmRel (.slice ad l.length cp) l w i wr) (fun i _ => l.length - (intOf i).toNat)
  case atStart => exact ⟨0, Nat.zero_le _, rfl, fun q y h => by omega, S⟩
  case round =>
    clear S
    obtain ⟨j, hj, rfl, Hz, S⟩ := hrel
    by_cases hlt : j < l.length
    · obtain ⟨x, hx⟩ : ∃ x, l[j]? = some x := ⟨_, List.getElem?_eq_getElem hlt⟩
      obtain ⟨R, o, rfl⟩ : ∃ R o, ad = some ⟨R, o, none⟩ := (S.sl 0 rfl).elim fun F h => h.head (by omega)
      have hlt2 : (j : Int) < l.length := by omega
      have Hx := Lib.hid hx
      clear hx
      by_cases h1 : x.key.at_ < 0
      · go_wp2_with first | ((with_reducible apply wps_load_el S 0 (hj := Hx.out) (q := 0) (u := .int .i64 x.key.at_)); (case hx | hi => rfl); (case hn => omega); (case hu => rfl); (case hT => decide +kernel))
        go_ret
        exact ⟨ret_bool (HN.out x (List.mem_of_getElem? Hx.out) (by omega)).symm, S.below⟩
      · by_cases h2 : 1073741824 < x.key.at_
        · go_wp2_with first | ((with_reducible apply wps_load_el S 0 (hj := Hx.out) (q := 0) (u := .int .i64 x.key.at_)); (case hx | hi => rfl); (case hn => omega); (case hu => rfl); (case hT => decide +kernel))
          go_ret
          exact ⟨ret_bool (HN.out x (List.mem_of_getElem? Hx.out) (by omega)).symm, S.below⟩
        · go_wp2_with first | ((with_reducible apply wps_load_el S 0 (hj := Hx.out) (q := 0) (u := .int .i64 x.key.at_)); (case hx | hi => rfl); (case hn => omega); (case hu => rfl); (case hT => decide +kernel))
          go_roundw
          case rel => exact ⟨j + 1, by omega, by go_num, snoc_all' (p := fun y : Event => 0 ≤ y.key.at_ ∧ y.key.at_ ≤ 1073741824) Hz.out Hx.out ⟨by omega, by omega⟩, S⟩
          case measure => first | (simp [intOf]; done) | (simp [intOf]; omega)
    · obtain rfl : j = l.length := by omega
      have HZ := Lib.hid (HY.out (all_of' Hz.out))
      go_wp2_with first | ((with_reducible apply wps_load S 0); (case hx | hi | hu => rfl); (case hT => decide +kernel))
      go_ret
      exact ⟨ret_bool (by rw [HZ.out]; rw [Bool.eq_iff_iff]; simp; omega), S.below⟩
def madeB (c : Cfg) : Bool := fewB c && decide (cfgE c = 0)
/-- What Made leaves: a model, if there may be one, and the reference's configuration. -/
def MadePost (c : Cfg) (w : World) (r : Ending) (w' : World) : Prop :=
  ∃ pv vs2 hs2, r = .returned (.tuple #[pv, .agg (List.toArray vs2)]) ∧
    ((madeB c = false ∧ pv = .pointer none ∧ St (fun _ => False) w w' [CfgA false vs2 hs2 c]) ∨
     (madeB c = true ∧ ∃ R vs hs, pv = .pointer (some ⟨R, 0, none⟩) ∧ St (fun _ => False) w w' [ModA false 93 R vs hs c, CfgA false vs2 hs2 c]))
set_option maxRecDepth 100000 in
set_option maxHeartbeats 16000000 in
theorem made_calls (vs hs : List Value) (c : Cfg) (w : World) (F F2 : Nat → Prop) (h : (CfgA true vs hs c).at_ w F) (hw : Wide c) (hwb : WideB c) (ht : Tab.at_ w F2) : Calls Tryd.prog 9 #[.agg vs.toArray] w (MadePost c w) := by
  have S : St (fun _ => False) w w [CfgA true vs hs c, Tab] := ((St.init _ w).share rfl rfl ht).share rfl rfl h
  clear h ht
  obtain ⟨aP, cP, aL, cL, aS, cS, rfl, hlen, _⟩ := S.cfg 0 rfl
  have HF : Hid (∀ w F, (CfgA true [.slice aP c.programs.length cP, .slice aL c.lps.length cL, .slice aS c.starts.length cS, .int .i64 c.fin, .int .i64 c.fuel, .int .i64 c.fan] hs c).at_ w F →
      Calls Tryd.prog 25 #[.agg #[.slice aP c.programs.length cP, .slice aL c.lps.length cL, .slice aS c.starts.length cS, .int .i64 c.fin, .int .i64 c.fuel, .int .i64 c.fan]] w fun r w' => r = .returned (.bool (fewB c)) ∧ Below w.heap.size w w') :=
    fun w F h => few_calls _ hs c w F h hw
  have hmw : MidW c := ⟨hwb.p, hwb.l, hwb.s⟩
  have hmw2 := hwb.q
  clear hlen
  go_enter Tryd.func9, Tryd.ntmps9
  go_wp2_with first | ((with_reducible apply wps_boxa (E := 26) S); (case hx => rfl); clear S; intro bx wz S) | ((with_reducible apply wps_alloca (E := 37) S); (case hz => exact Tryd.zeroValue37); clear S; intro b3 wz S) | ((with_reducible apply wps_loada (T := 26) (k := 6) S 1); (case hx | hi => rfl); (case hk => exact Nat.le_of_ble_eq_true rfl); (case hT => decide +kernel))
  refine Calls.mono (cplainW_calls [.slice aP c.programs.length cP, .slice aL c.lps.length cL, .slice aS c.starts.length cS, .int .i64 c.fin, .int .i64 c.fuel, .int .i64 c.fan] hs c _ _ (S.get (i := 2) rfl).choose_spec hmw hmw2) ?_
  rintro e wz ⟨gs, vH, vR, vT, rfl, hgs, T⟩
  replace S := S.join T rfl
  simp only [List.cons_append, List.nil_append] at S
  clear T
  obtain ⟨aH, cH, rfl⟩ : ∃ a c, _ = Value.slice a gs.length c := (S.get (i := 0) rfl).elim fun F h => h.1.form
  obtain ⟨aR, cR, rfl⟩ : ∃ a d, _ = Value.slice a c.lps.length d := (S.get (i := 2) rfl).elim fun F h => h.1.form
  obtain ⟨aT, cT, rfl⟩ : ∃ a d, _ = Value.slice a c.starts.length d := (S.get (i := 3) rfl).elim fun F h => h.1.form
  replace S := S.rcfgNew
  generalize gs.map Hd.val = hs2 at *
  generalize gs.length = gn at *
  clear hgs
  have fin0 : ∀ (w' : World), madeB c = false → St (fun _ => False) w w' [CfgA false [.slice aH gn cH, .slice aR c.lps.length cR, .slice aT c.starts.length cT, .int .i64 c.fin, .int .i64 c.fuel, .int .i64 c.fan] hs2 c] →
      MadePost c w (.returned (.tuple #[.pointer none, .agg #[.slice aH gn cH, .slice aR c.lps.length cR, .slice aT c.starts.length cT, .int .i64 c.fin, .int .i64 c.fuel, .int .i64 c.fan]])) w' := fun w' hm S => ⟨_, [.slice aH gn cH, .slice aR c.lps.length cR, .slice aT c.starts.length cT, .int .i64 c.fin, .int .i64 c.fuel, .int .i64 c.fan], hs2, rfl, .inl ⟨hm, rfl, S⟩⟩
  have Fin0 := Lib.hid fin0
  clear fin0
  replace S := S.pick [0, 2, 3, 4, 1] rfl
  repeat (first | simp only at S | simp only [pick] at S | simp only [nth] at S | simp only [List.set_cons_succ] at S | simp only [List.set_cons_zero] at S | simp only [List.setIfInBounds_toArray] at S | simp only [setAll] at S | simp only [List.cons_append] at S | simp only [List.nil_append] at S | simp only [List.append_nil] at S)
  cases hf : fewB c with
  | false =>
    rw [hf] at HF
    have Hm : Hid (madeB c = false) := by show _ = _; unfold madeB; rw [hf]; rfl
    clear hf hw
    go_wp2_with first | go_skip | ((with_reducible apply wps_alloca (E := 37) S); (case hz => exact Tryd.zeroValue37); clear S; intro b4 wz S) | ((with_reducible apply wps_storea (T := 37) S 0 (vs := [.slice aH gn cH, .slice aR c.lps.length cR, .slice aT c.starts.length cT, .int .i64 c.fin, .int .i64 c.fuel, .int .i64 c.fan]) (m := 6)); (case hx | hy | hi | hm | h1 => rfl); (case hn => exact Nat.le_of_ble_eq_true rfl); (case hT => decide +kernel); clear S; intro wz S; simp only [List.set_cons_zero, List.set_cons_succ, setAll, List.setIfInBounds_toArray] at S) | ((with_reducible apply wps_loada (T := 26) (k := 6) S 2); (case hx | hi => rfl); (case hk => exact Nat.le_of_ble_eq_true rfl); (case hT => decide +kernel)) | (go_at_call 25; refine Calls.mono (HF.out _ _ (S.get (i := 3) rfl).choose_spec) ?_; rintro e wz ⟨rfl, hE⟩; replace S := S.ext (Keep.of_below hE); clear hE) | ((with_reducible apply wps_loada (T := 37) (k := 6) S 0); (case hx | hi => rfl); (case hk => exact Nat.le_of_ble_eq_true rfl); (case hT => decide +kernel)) | ((with_reducible apply wps_storea (T := 37) S 5 (vs := [.slice aH gn cH, .slice aR c.lps.length cR, .slice aT c.starts.length cT, .int .i64 c.fin, .int .i64 c.fuel, .int .i64 c.fan]) (m := 6)); (case hx | hy | hi | hm | h1 => rfl); (case hn => exact Nat.le_of_ble_eq_true rfl); (case hT => decide +kernel); clear S; intro wz S; simp only [List.set_cons_zero, List.set_cons_succ, setAll, List.setIfInBounds_toArray] at S) | ((with_reducible refine tot_done ?ht ?_); (case ht => kernel_rfl)) | ((with_reducible apply wps_text S); (case hm => kernel_rfl); (case hB => decide +kernel); clear S; intro wz S)
    (try simp only [Exit.inBlock, Exit.then]); refine bodyPost_ret (results2 rfl (res_tmp rfl) (S.resA 5 rfl rfl (by kernel_rfl))) rfl ?_
    exact Fin0.out _ Hm.out (S.pick [1] rfl)
  | true =>
    rw [hf] at HF
    have HM := Lib.hid (few_midK hf)
    have HM2 := Lib.hid (few_midK2 hf)
    have Hf := Lib.hid hf
    clear hf hw
    have HR := Lib.hid fun w F h => refcheck_calls [.slice aH gn cH, .slice aR c.lps.length cR, .slice aT c.starts.length cT, .int .i64 c.fin, .int .i64 c.fuel, .int .i64 c.fan] hs2 c w F h HM.out
    have HNw := Lib.hid fun w F F2 h ht => new_calls [.slice aP c.programs.length cP, .slice aL c.lps.length cL, .slice aS c.starts.length cS, .int .i64 c.fin, .int .i64 c.fuel, .int .i64 c.fan] hs c w F F2 h ht HM.out HM2.out
    by_cases h0 : cfgE c = 0
    case neg =>
      have Hm : Hid (madeB c = false) := by show _ = _; unfold madeB; rw [decide_eq_false h0, Bool.and_false]
      obtain ⟨e, he⟩ : ∃ e, cfgE c = e := ⟨_, rfl⟩
      rw [he] at HR h0
      have h1 : (e != 0) = true := by simpa using h0
      clear HNw h0
      have He := Lib.hid he
      clear he
      go_wp2_with first | ((with_reducible apply wps_alloca (E := 37) S); (case hz => exact Tryd.zeroValue37); clear S; intro b4 wz S) | ((with_reducible apply wps_storea (T := 37) S 0 (vs := [.slice aH gn cH, .slice aR c.lps.length cR, .slice aT c.starts.length cT, .int .i64 c.fin, .int .i64 c.fuel, .int .i64 c.fan]) (m := 6)); (case hx | hy | hi | hm | h1 => rfl); (case hn => exact Nat.le_of_ble_eq_true rfl); (case hT => decide +kernel); clear S; intro wz S; simp only [List.set_cons_zero, List.set_cons_succ, setAll, List.setIfInBounds_toArray] at S) | ((with_reducible apply wps_loada (T := 26) (k := 6) S 2); (case hx | hi => rfl); (case hk => exact Nat.le_of_ble_eq_true rfl); (case hT => decide +kernel)) | ((with_reducible apply wps_loada (T := 37) (k := 6) S 0); (case hx | hi => rfl); (case hk => exact Nat.le_of_ble_eq_true rfl); (case hT => decide +kernel)) | (go_at_call 25; refine Calls.mono (HF.out _ _ (S.get (i := 3) rfl).choose_spec) ?_; rintro e wz ⟨rfl, hE⟩; replace S := S.ext (Keep.of_below hE); clear hE) | (go_at_call 26; refine Calls.mono (HR.out _ _ (S.get (i := 1) rfl).choose_spec) ?_; rintro e wz ⟨rfl, hE⟩; replace S := S.ext (Keep.of_below hE); clear hE) | ((with_reducible apply wps_storea (T := 37) S 5 (vs := [.slice aH gn cH, .slice aR c.lps.length cR, .slice aT c.starts.length cT, .int .i64 c.fin, .int .i64 c.fuel, .int .i64 c.fan]) (m := 6)); (case hx | hy | hi | hm | h1 => rfl); (case hn => exact Nat.le_of_ble_eq_true rfl); (case hT => decide +kernel); clear S; intro wz S; simp only [List.set_cons_zero, List.set_cons_succ, setAll, List.setIfInBounds_toArray] at S) | ((with_reducible refine tot_done ?ht ?_); (case ht => kernel_rfl)) | ((with_reducible apply wps_text S); (case hm => kernel_rfl); (case hB => decide +kernel); clear S; intro wz S)
      (try simp only [Exit.inBlock, Exit.then]); refine bodyPost_ret (results2 rfl (res_tmp rfl) (S.resA 5 rfl rfl (by kernel_rfl))) rfl ?_
      exact Fin0.out _ Hm.out (S.pick [1] rfl)
    case pos =>
      have Hm : Hid (madeB c = true) := by show _ = _; unfold madeB; rw [Hf.out, decide_eq_true h0]; rfl
      have H0 := Lib.hid h0
      rw [h0] at HR
      clear h0
      go_wp2_with first | ((with_reducible apply wps_alloca (E := 37) S); (case hz => exact Tryd.zeroValue37); clear S; intro b4 wz S) | ((with_reducible apply wps_storea (T := 37) S 0 (vs := [.slice aH gn cH, .slice aR c.lps.length cR, .slice aT c.starts.length cT, .int .i64 c.fin, .int .i64 c.fuel, .int .i64 c.fan]) (m := 6)); (case hx | hy | hi | hm | h1 => rfl); (case hn => exact Nat.le_of_ble_eq_true rfl); (case hT => decide +kernel); clear S; intro wz S; simp only [List.set_cons_zero, List.set_cons_succ, setAll, List.setIfInBounds_toArray] at S) | ((with_reducible apply wps_loada (T := 26) (k := 6) S 2); (case hx | hi => rfl); (case hk => exact Nat.le_of_ble_eq_true rfl); (case hT => decide +kernel)) | ((with_reducible apply wps_loada (T := 37) (k := 6) S 0); (case hx | hi => rfl); (case hk => exact Nat.le_of_ble_eq_true rfl); (case hT => decide +kernel)) | (go_at_call 25; refine Calls.mono (HF.out _ _ (S.get (i := 3) rfl).choose_spec) ?_; rintro e wz ⟨rfl, hE⟩; replace S := S.ext (Keep.of_below hE); clear hE) | (go_at_call 26; refine Calls.mono (HR.out _ _ (S.get (i := 1) rfl).choose_spec) ?_; rintro e wz ⟨rfl, hE⟩; replace S := S.ext (Keep.of_below hE); clear hE)
      refine Calls.mono (HNw.out _ _ _ (S.get (i := 3) rfl).choose_spec (S.get (i := 4) rfl).choose_spec) ?_
      rintro e wz (⟨hne, rfl, hE⟩ | ⟨_, R, vs3, hs3, rfl, T⟩)
      · exact absurd H0.out hne
      replace S := (S.join T rfl).pick [1, 0, 2, 3, 4, 5, 6] rfl
      repeat (first | simp only at S | simp only [pick] at S | simp only [nth] at S | simp only [List.set_cons_succ] at S | simp only [List.set_cons_zero] at S | simp only [List.setIfInBounds_toArray] at S | simp only [setAll] at S | simp only [List.cons_append] at S | simp only [List.nil_append] at S | simp only [List.append_nil] at S)
      clear T
      go_wp2_with first | ((with_reducible apply wps_storea (T := 37) S 6 (vs := [.slice aH gn cH, .slice aR c.lps.length cR, .slice aT c.starts.length cT, .int .i64 c.fin, .int .i64 c.fuel, .int .i64 c.fan]) (m := 6)); (case hx | hy | hi | hm | h1 => rfl); (case hn => exact Nat.le_of_ble_eq_true rfl); (case hT => decide +kernel); clear S; intro wz S; simp only [List.set_cons_zero, List.set_cons_succ, setAll, List.setIfInBounds_toArray] at S) | ((with_reducible refine tot_done ?ht ?_); (case ht => kernel_rfl)) | ((with_reducible apply wps_text S); (case hm => kernel_rfl); (case hB => decide +kernel); clear S; intro wz S) | ((with_reducible apply wps_loada (T := 37) (k := 6) S 0); (case hx | hi => rfl); (case hk => exact Nat.le_of_ble_eq_true rfl); (case hT => decide +kernel))
      (try simp only [Exit.inBlock, Exit.then]); refine bodyPost_ret (results2 rfl (res_tmp rfl) (S.resA 6 rfl rfl (by kernel_rfl))) rfl ?_
      exact ⟨_, [.slice aH gn cH, .slice aR c.lps.length cR, .slice aT c.starts.length cT, .int .i64 c.fin, .int .i64 c.fuel, .int .i64 c.fan], hs2, rfl, .inr ⟨Hm.out, R, vs3, hs3, rfl, S.pick [1, 2] rfl⟩⟩
end Go.Proofs.YtfiiaechippboaaDoor
/- The walks of the law's awake and BatchNil. -/
namespace Go.Proofs.YtfiiaechippboaaDoor
open Go Go.RowKit Reg Mem

def wk8 : Cfg := ⟨[[⟨1, 4, 1, 0, 0⟩, ⟨1, 5, 2, 0, 0⟩, ⟨12, 6, 0, 0, 0⟩, ⟨14, 4, 5, 6, 0⟩]], [⟨0, ⟨0, 0, 0, 0⟩⟩, ⟨0, ⟨0, 0, 0, 0⟩⟩], [], 9, 9, 1⟩
def wk8e : Event := ⟨⟨5, -1, -1, 0⟩, 0, 0, 9⟩
def wk8x : Event := ⟨⟨7, 0, 5, 0⟩, 1, 0, 9⟩
theorem wk8_ok : cfgE wk8 = 0 := by decide +kernel
theorem wk8_wrong : wrongE wk8.lps.length 0 [wk8e] = 0 := by decide +kernel
theorem wk8_run : (batchC wk8 0 ⟨0, 0, 0, 0⟩ [wk8e]).2 = [wk8x] := by decide +kernel
theorem wk8_mid : Mid wk8 := ⟨by decide, by decide, by decide⟩
theorem wk8_mid2 : ∀ p ∈ wk8.programs, p.length ≤ 65536 := by decide
set_option maxRecDepth 100000 in
set_option maxHeartbeats 4000000 in
theorem awake8_calls (w : World) (F : Nat → Prop) (ht : Tab.at_ w F) : Calls Tryd.prog 11 #[] w fun r w' => r = .returned (.bool true) ∧ Below w.heap.size w w' := by
  have S : St (fun _ => False) w w [Tab] := (St.init _ w).share rfl rfl ht
  clear ht
  replace S := S.nil 96 Start.cells 4
  go_enter Tryd.func11, Tryd.ntmps11
  go_wp2_with first | ((with_reducible apply wps_buildSlice (T := 71) (E := 70) (cs := #[.int .i64 1, .int .i64 4, .int .i64 1, .int .i64 0, .int .i64 0, .int .i64 1, .int .i64 5, .int .i64 2, .int .i64 0, .int .i64 0, .int .i64 12, .int .i64 6, .int .i64 0, .int .i64 0, .int .i64 0, .int .i64 14, .int .i64 4, .int .i64 5, .int .i64 6, .int .i64 0]) S); (case hr => intro w; kernel_rfl); clear S; intro bi wz S) | ((with_reducible apply wps_buildSlice (T := 22) (E := 71) (cs := #[.slice (some ⟨bi, 0, none⟩) 4 4]) S); (case hr => intro w; kernel_rfl); clear S; intro bh wz S) | ((with_reducible apply wps_buildSlice (T := 23) (E := 73) (cs := #[.int .i64 0, .int .i64 0, .int .i64 0, .int .i64 0, .int .i64 0, .int .i64 0, .int .i64 0, .int .i64 0, .int .i64 0, .int .i64 0]) S); (case hr => intro w; kernel_rfl); clear S; intro bp wz S)
  have hcfg : (CfgA true [.slice (some ⟨bh, 0, none⟩) 1 1, .slice (some ⟨bp, 0, none⟩) 2 2, .slice none 0 0, .int .i64 9, .int .i64 9, .int .i64 1] [.slice (some ⟨bi, 0, none⟩) 4 4] wk8).at_ wz (fun b => b < wz.heap.size) :=
    cfg_any (c := wk8) (blk_sl (n := 1) [.slice (some ⟨bi, 0, none⟩) 4 4] vcells (S.get (i := 1) rfl).choose_spec rfl rfl) (blk_sl (n := 2) wk8.lps plcells (S.get (i := 0) rfl).choose_spec rfl rfl) (own_sl (sh := true) stcells (S.get (i := 3) rfl).choose_spec)
      (sls_one (blk_sl (n := 4) wk8.programs[0] incells (S.get (i := 2) rfl).choose_spec rfl rfl))
  refine Calls.mono (new_calls _ _ wk8 _ _ _ hcfg (S.get (i := 4) rfl).choose_spec wk8_mid wk8_mid2) ?_
  clear hcfg
  rintro e wz (⟨h, _⟩ | ⟨_, R, vs, hs, rfl, T⟩)
  · exact absurd wk8_ok h
  replace S := ((S.join T rfl).modShare 0 rfl).pick [0, 5] rfl
  repeat (first | simp only at S | simp only [pick] at S | simp only [nth] at S | simp only [List.set_cons_succ] at S | simp only [List.set_cons_zero] at S | simp only [List.setIfInBounds_toArray] at S | simp only [setAll] at S | simp only [List.cons_append] at S | simp only [List.nil_append] at S | simp only [List.append_nil] at S)
  clear T
  go_wp2_with first | ((with_reducible apply wps_buildSlice (T := 29) (E := 54) (cs := #[.int .i64 5, .int .i64 (-1), .int .i64 (-1), .int .i64 0, .int .i64 0, .int .i64 0, .int .i64 9]) S); (case hr => intro w; kernel_rfl); clear S; intro be wz S)
  refine Calls.mono (brun_calls R vs hs wk8 0 ⟨0, 0, 0, 0⟩ _ [wk8e] _ _ _ _ (S.get (i := 1) rfl).choose_spec (blk_sl (n := 1) [wk8e] ecells (S.get (i := 0) rfl).choose_spec rfl rfl) (S.get (i := 2) rfl).choose_spec (by decide) wk8_ok (fun _ => by decide)) ?_
  rintro e wz (⟨h, _⟩ | ⟨_, v, rfl, T⟩)
  · exact absurd wk8_wrong h
  rw [wk8_run] at T
  replace S := (S.join T rfl).freeze true 0 ecells rfl
  simp only [List.cons_append, List.nil_append, List.set_cons_zero] at S
  clear T
  go_wp2_with first | ((with_reducible apply wps_buildSlice (T := 29) (E := 54) (cs := #[.int .i64 7, .int .i64 0, .int .i64 5, .int .i64 0, .int .i64 1, .int .i64 0, .int .i64 9]) S); (case hr => intro w; kernel_rfl); clear S; intro be2 wz S) | ((with_reducible apply wps_alloca (E := 28) S); (case hz => exact Tryd.zeroValue28); clear S; intro bs wz S) | ((with_reducible apply wps_storea (T := 28) S 0 (vs := [_, _, _, _]) (m := 4)); (case hx | hy | hi | hm | h1 => rfl); (case hn => exact Nat.le_of_ble_eq_true rfl); (case hT => decide +kernel); clear S; intro wz S; simp only [List.set_cons_zero, setAll, List.setIfInBounds_toArray] at S) | (go_at_call 16; refine Calls.mono (evseq_calls _ _ [wk8x] [wk8x] _ _ _ (S.get (i := 2) rfl).choose_spec (blk_sl (n := 1) [wk8x] ecells (S.get (i := 0) rfl).choose_spec rfl rfl) (by decide) (by decide)) ?_; rintro e wz ⟨rfl, hE⟩; replace S := S.ext (Keep.of_below hE); clear hE)
  go_ret
  exact ⟨by simp, S.below⟩
end Go.Proofs.YtfiiaechippboaaDoor
/- Plain: what is sent in a batch; and a configuration that is shared. -/
namespace Go.Proofs.YtfiiaechippboaaDoor
open Go Go.RowKit Mem

section
variable {G : Nat → Prop} {w0 w : World} {L : List Asn} {vs hs : List Value} {c : Cfg}
theorem Mem.St.cfgShare (S : St G w0 w L) (i : Nat) (hi : L[i]? = some (CfgA false vs hs c)) : St G w0 w (L.set i (CfgA true vs hs c)) :=
  S.weak hi (fun e => by cases e) (fun F h => ⟨F, fun _ hb => hb, h⟩)
end
/-- What is known of each message's event. -/
structure SentOk (n : Nat) (fin lp at_ : Int) (out : List Event) : Prop where
  each : ∀ (i : Nat) (x : Event), out[i]? = some x → x.key.src = lp ∧ x.key.sent = at_ ∧ x.key.no = i ∧ at_ < x.key.at_ ∧ x.key.at_ ≤ fin ∧ 0 ≤ x.dst ∧ x.dst < n
end Go.Proofs.YtfiiaechippboaaDoor
/- Plain: a process without instructions; messages that go behind the end. -/
namespace Go.Proofs.YtfiiaechippboaaDoor
open Go Go.RowKit Mem

/-- A configuration with its programs left away. -/
def stillC (c : Cfg) : Cfg := ⟨List.replicate c.programs.length [], c.lps, c.starts, c.fin, c.fuel, c.fan⟩
/-- One without starts that ends at a time. -/
def lateC (c : Cfg) (t : Int) : Cfg := ⟨c.programs, c.lps, [], t, c.fuel, c.fan⟩
end Go.Proofs.YtfiiaechippboaaDoor

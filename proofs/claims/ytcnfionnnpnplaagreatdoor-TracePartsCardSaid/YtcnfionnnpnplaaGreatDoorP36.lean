import Derived.Test.YtcnfionnnpnplaaGreatDoorP32
import Derived.Test.YtcnfionnnpnplaaGreatDoorP33
import Derived.Test.YtcnfionnnpnplaaGreatDoorP35
/- The walk of the law's TraceParts. -/
namespace Go.Proofs.YtcnfionnnpnplaaGreatDoor
open Go Go.RowKit Reg Mem

section
variable {P : Program} {ops : Array Oper} {rest : List Oper} {a : Act} {Q : Exit → Act → World → Prop} {d : Option Tmp} {tt : TypeId} {p : String} {af : Array Edge} {gd : Option (Nat × Bool)} {x : Operand} {w : World}
theorem Mem.wps_cutK {T E : TypeId} {k : Nat} {ad da : Option Addr} {n c : Nat} (l m cm : Nat) {lo : Option Operand}
    (hT : P.underlying T = some (.slice E)) (hE : ∀ w, (sizeOf E).run P w = .ok k w) (hx : a.eval x = .slice ad n c) (hlo : lo.map a.eval = some (.int .i64 l)) (hn : n = l + m) (hc : c = l + cm) (hm : m ≤ cm) (hda : (if c = l then ad else ad.map (·.add (l * k))) = da)
    (next : wpList P ops Q rest (a.put d (.slice da m cm)) w) (hgd : gOk gd ops a = true := by with_unfolding_all rfl) :
    wpList P ops Q ({ dst := d, op := .slice T x lo none none, type := tt, pos := p, after := af, guard := gd } :: rest) a w :=
  wpList_ok hgd fun K hK => by
    unfold Oper.wp execOp
    simp only [Option.map_none, hx, run_sliceAt_sl hT (hE w) ad n c l n _ none (.inr hlo) (.inl ⟨rfl, rfl⟩) (by omega) (by omega), Sem.run_bind, Sem.run_pure, Result.andThen_ok]
    rw [hda, show n - l = m by omega, show c - l = cm by omega]
    exact hK _ _ next
end
theorem sl_drop {ad : Option Addr} {c k m cm : Nat} {l : List BatV} {da : Option Addr} (hn : l.length = k + m) (hc : c = k + cm) (hda : (if c = k then ad else ad.map (·.add (k * 8))) = da) {w : World} {F : Nat → Prop} (h : (Sl true BatV.cells 8 (.slice ad l.length c) l).at_ w F) : (Sl true BatV.cells 8 (.slice da m cm) (l.drop k)).at_ w F := by
  have h2 := h.1.sub (l := k) (u := l.length) (by omega) (Nat.le_refl _)
  rw [List.take_length, hda, show l.length - k = m by omega, show c - k = cm by omega] at h2
  exact ⟨h2, h.2⟩
theorem sl_take {ad : Option Addr} {c k : Nat} {l : List BatV} (hk : k ≤ l.length) {w : World} {F : Nat → Prop} (h : (Sl true BatV.cells 8 (.slice ad l.length c) l).at_ w F) : (Sl true BatV.cells 8 (.slice ad k c) (l.take k)).at_ w F := by
  have h2 := h.1.sub (l := 0) (u := k) (Nat.zero_le _) hk
  rw [List.drop_zero, cutA, Nat.sub_zero, Nat.sub_zero] at h2
  exact ⟨h2, h.2⟩
def earlyV (u : Int) (l : List BatV) : List BatV := l.filter fun x => decide (x.b.at_ < u)
theorem earlyV_b (u : Int) (l : List BatV) : (earlyV u l).map (·.b) = earlyB u (l.map (·.b)) := by
  unfold earlyV earlyB
  rw [List.filter_map]; rfl
theorem earlyV_snoc {u : Int} {l : List BatV} {j : Nat} {x : BatV} (h : l[j]? = some x) : earlyV u (l.take (j + 1)) = earlyV u (l.take j) ++ (if x.b.at_ < u then [x] else []) := by
  unfold earlyV
  rw [take_snoc h, List.filter_append]
  by_cases hx : x.b.at_ < u
  · rw [if_pos hx, List.filter_cons_of_pos (by simpa using hx)]; rfl
  · rw [if_neg hx, List.filter_cons_of_neg (by simpa using hx)]; rfl
def WrRel20 (L : List Asn) (d : List BatV) (n : Nat) (av : Value) (w : World) (i : Value) (wr : World) : Prop :=
  ∃ (j : Nat) (d2 : List BatV), j ≤ n ∧ i = .int .i64 j ∧ Hid (d2.map (·.vi) = d.map (·.vi)) ∧ Hid (d2.length = n) ∧ St (fun _ => False) w wr (Mem.Own 52 BatV.cells 8 av d2 :: Room 7 (d.map (·.vi)) :: L)
def WrRelB20 (L : List Asn) (n : Nat) (w : World) (i : Value) (wr : World) : Prop :=
  ∃ k : Nat, k ≤ n ∧ i = .int .i64 k ∧ St (fun _ => False) w wr L
def EarRel20 (L : List Asn) (l : List BatV) (u : Int) (w : World) (v i : Value) (wr : World) : Prop :=
  ∃ j : Nat, j ≤ l.length ∧ i = .int .i64 j ∧ St (fun _ => False) w wr (Mem.Own 52 BatV.cells 8 v (earlyV u (l.take j)) :: L)
set_option maxRecDepth 100000 in
set_option maxHeartbeats 32000000 in
theorem traceParts_calls (vs hs : List Value) (c : Cfg) (ad : Option Addr) (cp : Nat) (l : List BatV) (t0 t1 : Int) (w : World) (F F2 F3 F4 F5 : Nat → Prop) (h : (CfgA true vs hs c).at_ w F) (hw : Wide c) (hwb : WideB c) (h2 : (Sl true BatV.cells 8 (.slice ad l.length cp) l).at_ w F2) (h3 : (insA true l).at_ w F3) (h4 : (outA true l).at_ w F4)
    (hn : l.length ≤ 9223372036854775807) (hn2 : ∀ x ∈ l, x.b.ins.length ≤ 9223372036854775807) (ht : Tab.at_ w F5) :
    Calls Tryz.prog 3 #[.agg vs.toArray, .slice ad l.length cp, .agg #[.int .i64 t0, .int .i64 t1]] w fun r w' => r = .returned (.bool true) ∧ Below w.heap.size w w' := by
  have S : St (fun _ => False) w w [CfgA true vs hs c, Sl true BatV.cells 8 (.slice ad l.length cp) l, insA true l, outA true l, Tab] :=
    (((((St.init _ w).share rfl rfl ht).share (A := outA true l) rfl rfl h4).share (A := insA true l) rfl rfl h3).share (A := Sl true BatV.cells 8 (.slice ad l.length cp) l) rfl rfl h2).share rfl rfl h
  have hlcp : l.length ≤ cp := by obtain ⟨a', c', e, h3, _⟩ := h2.1; simp only [Value.slice.injEq] at e; omega
  clear h h2 h3 h4 ht
  obtain ⟨aP, cP, aL, cL, aS, cS, rfl, _, _⟩ := S.cfg 0 rfl
  have HMd := Lib.hid fun w F F2 h ht => made_calls [.slice aP c.programs.length cP, .slice aL c.lps.length cL, .slice aS c.starts.length cS, .int .i64 c.fin, .int .i64 c.fuel, .int .i64 c.fan] hs c w F F2 h hw hwb ht
  have HF := Lib.hid fun w F F2 F3 h h2 h3 => few20_calls ad cp l w F F2 F3 h h2 h3 hn hn2
  clear hw hwb hn hn2
  go_enter Tryz.func3, Tryz.ntmps3
  go_wp2_with first | ((with_reducible apply wps_boxa (E := 26) S); (case hx => rfl); clear S; intro bx wz S) | ((with_reducible apply wps_boxa (E := 28) S); (case hx => rfl); clear S; intro b5 wz S) | ((with_reducible apply wps_loada (T := 26) (k := 6) S 1); (case hx | hi => rfl); (case hk => exact Nat.le_of_ble_eq_true rfl); (case hT => decide +kernel))
  refine Calls.mono (HMd.out _ _ _ (S.get (i := 2) rfl).choose_spec (S.get (i := 6) rfl).choose_spec) ?_
  clear HMd
  rintro r wz ⟨pv, vs2, hs2, rfl, (⟨hm, rfl, T⟩ | ⟨hm, R, vs3, hs3, rfl, T⟩)⟩
  · replace S := ((S.join T rfl).cfgShare 0 rfl).pick [0, 7] rfl
    repeat (first | simp only at S | simp only [pick] at S | simp only [nth] at S | simp only [List.set_cons_succ] at S | simp only [List.set_cons_zero] at S | simp only [List.setIfInBounds_toArray] at S | simp only [setAll] at S | simp only [List.cons_append] at S | simp only [List.nil_append] at S | simp only [List.append_nil] at S)
    clear T hm
    obtain ⟨aP2, cP2, aL2, cL2, aS2, cS2, rfl, _, _⟩ := S.cfg 0 rfl
    go_wp2_with first | go_skip | ((with_reducible apply wps_alloca (E := 34) S); (case hz => exact Tryz.zeroValue34); clear S; intro b6 wz S) | ((with_reducible apply wps_storea (T := 34) S 0 (vs := [.slice aP2 c.programs.length cP2, .slice aL2 c.lps.length cL2, .slice aS2 c.starts.length cS2, .int .i64 c.fin, .int .i64 c.fuel, .int .i64 c.fan]) (m := 6)); (case hx | hy | hi | hm | h1 => rfl); (case hn => exact Nat.le_of_ble_eq_true rfl); (case hT => decide +kernel); clear S; intro wz S; simp only [List.set_cons_zero, List.set_cons_succ, setAll, List.setIfInBounds_toArray] at S) | (go_at_call 8; refine Calls.mono (awake20_calls _ _ (S.get (i := 2) rfl).choose_spec) ?_; rintro e wz ⟨rfl, hE⟩; replace S := S.ext (Keep.of_below hE); clear hE)
    go_ret
    exact ⟨rfl, S.below⟩
  replace S := (((S.join T rfl).modShare 0 rfl).cfgShare 1 rfl).pick [2, 0, 5, 6, 7, 8, 1] rfl
  repeat (first | simp only at S | simp only [pick] at S | simp only [nth] at S | simp only [List.set_cons_succ] at S | simp only [List.set_cons_zero] at S | simp only [List.setIfInBounds_toArray] at S | simp only [setAll] at S | simp only [List.cons_append] at S | simp only [List.nil_append] at S | simp only [List.append_nil] at S)
  clear T
  obtain ⟨aP2, cP2, aL2, cL2, aS2, cS2, rfl, _, _⟩ := S.cfg 6 rfl
  have hfw : fewB c = true ∧ cfgE c = 0 := by unfold madeB at hm; rw [Bool.and_eq_true, decide_eq_true_eq] at hm; exact hm
  have HC := Lib.hid hfw.2
  have hcn : c.lps.length ≤ 32 := by have := (cfg_isfine hfw.2).sizes; unfold sizesOk at this; omega
  have hst : c.starts.length ≤ 256 := (cfg_isfine hfw.2).starts
  clear hm hfw
  obtain ⟨fq, hfq⟩ : ∃ q, fewT (l.map (·.b)) = q := ⟨_, rfl⟩
  rw [hfq] at HF
  cases fq with
  | false =>
    clear hfq
    go_wp2_with first | go_skip | ((with_reducible apply wps_alloca (E := 34) S); (case hz => exact Tryz.zeroValue34); clear S; intro b6 wz S) | ((with_reducible apply wps_storea (T := 34) S 0 (vs := [.slice aP2 c.programs.length cP2, .slice aL2 c.lps.length cL2, .slice aS2 c.starts.length cS2, .int .i64 c.fin, .int .i64 c.fuel, .int .i64 c.fan]) (m := 6)); (case hx | hy | hi | hm | h1 => rfl); (case hn => exact Nat.le_of_ble_eq_true rfl); (case hT => decide +kernel); clear S; intro wz S; simp only [List.set_cons_zero, List.set_cons_succ, setAll, List.setIfInBounds_toArray] at S) | (go_at_call 7; refine Calls.mono (HF.out _ _ _ _ (S.get (i := 3) rfl).choose_spec (S.get (i := 4) rfl).choose_spec (S.get (i := 5) rfl).choose_spec) ?_; rintro e wz ⟨rfl, hE⟩; replace S := S.ext (Keep.of_below hE); clear hE) | (go_at_call 8; refine Calls.mono (awake20_calls _ _ (S.get (i := 6) rfl).choose_spec) ?_; rintro e wz ⟨rfl, hE⟩; replace S := S.ext (Keep.of_below hE); clear hE)
    go_ret
    exact ⟨rfl, S.below⟩
  | true =>
  have HFW := Lib.hid (few_of hfq)
  clear hfq
  by_cases g1 : t0 < 0
  · have f1 : decide (t0 < 0) = true := decide_eq_true g1
    clear g1
    go_wp2_with first | go_skip | ((with_reducible apply wps_alloca (E := 34) S); (case hz => exact Tryz.zeroValue34); clear S; intro b6 wz S) | ((with_reducible apply wps_storea (T := 34) S 0 (vs := [.slice aP2 c.programs.length cP2, .slice aL2 c.lps.length cL2, .slice aS2 c.starts.length cS2, .int .i64 c.fin, .int .i64 c.fuel, .int .i64 c.fan]) (m := 6)); (case hx | hy | hi | hm | h1 => rfl); (case hn => exact Nat.le_of_ble_eq_true rfl); (case hT => decide +kernel); clear S; intro wz S; simp only [List.set_cons_zero, List.set_cons_succ, setAll, List.setIfInBounds_toArray] at S) | (go_at_call 7; refine Calls.mono (HF.out _ _ _ _ (S.get (i := 3) rfl).choose_spec (S.get (i := 4) rfl).choose_spec (S.get (i := 5) rfl).choose_spec) ?_; rintro e wz ⟨rfl, hE⟩; replace S := S.ext (Keep.of_below hE); clear hE) | ((with_reducible apply wps_load S 1); (case hx | hi | hu => rfl); (case hT => decide +kernel)) | (go_at_call 8; refine Calls.mono (awake20_calls _ _ (S.get (i := 6) rfl).choose_spec) ?_; rintro e wz ⟨rfl, hE⟩; replace S := S.ext (Keep.of_below hE); clear hE)
    go_ret
    exact ⟨rfl, S.below⟩
  have f1 : decide (t0 < 0) = false := decide_eq_false g1
  by_cases g2 : (l.length : Int) < t0
  · have f2 : decide (t0 > (l.length : Int)) = true := decide_eq_true g2
    have f3 : decide ((l.length : Int) < t0) = true := decide_eq_true g2
    clear g1 g2
    go_wp2_with first | ((with_reducible apply wps_alloca (E := 34) S); (case hz => exact Tryz.zeroValue34); clear S; intro b6 wz S) | ((with_reducible apply wps_storea (T := 34) S 0 (vs := [.slice aP2 c.programs.length cP2, .slice aL2 c.lps.length cL2, .slice aS2 c.starts.length cS2, .int .i64 c.fin, .int .i64 c.fuel, .int .i64 c.fan]) (m := 6)); (case hx | hy | hi | hm | h1 => rfl); (case hn => exact Nat.le_of_ble_eq_true rfl); (case hT => decide +kernel); clear S; intro wz S; simp only [List.set_cons_zero, List.set_cons_succ, setAll, List.setIfInBounds_toArray] at S) | (go_at_call 7; refine Calls.mono (HF.out _ _ _ _ (S.get (i := 3) rfl).choose_spec (S.get (i := 4) rfl).choose_spec (S.get (i := 5) rfl).choose_spec) ?_; rintro e wz ⟨rfl, hE⟩; replace S := S.ext (Keep.of_below hE); clear hE) | ((with_reducible apply wps_load S 1); (case hx | hi | hu => rfl); (case hT => decide +kernel)) | (go_at_call 8; refine Calls.mono (awake20_calls _ _ (S.get (i := 6) rfl).choose_spec) ?_; rintro e wz ⟨rfl, hE⟩; replace S := S.ext (Keep.of_below hE); clear hE)
    go_ret
    exact ⟨rfl, S.below⟩
  obtain ⟨k, rfl⟩ : ∃ k : Nat, t0 = k := ⟨t0.toNat, by omega⟩
  have f2 : decide ((k : Int) > (l.length : Int)) = false := decide_eq_false g2
  have f3 : decide ((l.length : Int) < (k : Int)) = false := decide_eq_false g2
  have hkl : k ≤ l.length := by omega
  have hl40 : l.length ≤ 40 := by have := HFW.out.len; rwa [List.length_map] at this
  have HSB := Lib.hid (HFW.out.small (by decide))
  clear g1 g2
  obtain ⟨e0, T, hcm⟩ : ∃ e T, commitT (newT c) (l.map (·.b)) = (e, T) := ⟨_, _, rfl⟩
  by_cases he0 : e0 = 0
  case neg =>
    have HPN := Lib.hid fun w F F2 F3 F4 h h2 h3 h4 => put20_no R vs3 hs3 c ad cp l e0 T he0 w F F2 F3 F4 h h2 h3 h4 hcn HSB.out hcm
    clear hcm he0
    go_wp2_with first | ((with_reducible apply wps_alloca (E := 34) S); (case hz => exact Tryz.zeroValue34); clear S; intro b6 wz S) | ((with_reducible apply wps_storea (T := 34) S 0 (vs := [.slice aP2 c.programs.length cP2, .slice aL2 c.lps.length cL2, .slice aS2 c.starts.length cS2, .int .i64 c.fin, .int .i64 c.fuel, .int .i64 c.fan]) (m := 6)); (case hx | hy | hi | hm | h1 => rfl); (case hn => exact Nat.le_of_ble_eq_true rfl); (case hT => decide +kernel); clear S; intro wz S; simp only [List.set_cons_zero, List.set_cons_succ, setAll, List.setIfInBounds_toArray] at S) | (go_at_call 7; refine Calls.mono (HF.out _ _ _ _ (S.get (i := 3) rfl).choose_spec (S.get (i := 4) rfl).choose_spec (S.get (i := 5) rfl).choose_spec) ?_; rintro e wz ⟨rfl, hE⟩; replace S := S.ext (Keep.of_below hE); clear hE) | ((with_reducible apply wps_load S 1); (case hx | hi | hu => rfl); (case hT => decide +kernel)) | (go_at_call 8; refine Calls.mono (awake20_calls _ _ (S.get (i := 6) rfl).choose_spec) ?_; rintro e wz ⟨rfl, hE⟩; replace S := S.ext (Keep.of_below hE); clear hE) | (go_at_call 9; refine Calls.mono (HPN.out _ _ _ _ _ (S.get (i := 2) rfl).choose_spec (S.get (i := 3) rfl).choose_spec (S.get (i := 4) rfl).choose_spec (S.get (i := 5) rfl).choose_spec) ?_; rintro e wz ⟨rfl, hE⟩; replace S := S.ext (Keep.of_below hE); clear hE)
    go_ret
    exact ⟨rfl, S.below⟩
  case pos =>
  subst he0
  obtain ⟨hin, hri, hIT, U, hcU, hIU, hcT⟩ := commit_parts hcm k
  obtain ⟨V, hcV, hIV⟩ := commit_early hin hri t1
  have hinU : inRange c.lps.length ((l.map (·.b)).take k) := fun b hb => hin b (List.mem_of_mem_take hb)
  have hsT := isT_small (u := t1) hIT hin HFW.out (by decide) hcn hst
  have hsU := isT_small (u := t1) hIU hinU (HFW.out.sub (List.take_sublist _ _)) (by decide) hcn hst
  have hinV : inRange c.lps.length (earlyB t1 (l.map (·.b))) := fun b hb => hin b (List.mem_filter.1 hb).1
  have hsV := isT_small (u := t1) hIV hinV (HFW.out.sub List.filter_sublist) (by decide) hcn hst
  have hpT := isT_perm hIT hin
  have hHV : holdsE c t1 V = holdsE c t1 T := holds_early hIT hIV hri
  obtain ⟨sb, hsb⟩ : ∃ s, sortB (l.map (·.b)) = s := ⟨_, rfl⟩
  have hsbl : sb.length = l.length := by rw [← hsb, (sortB_perm _).length_eq, List.length_map]
  have HSBL := Lib.hid hsbl
  have HSBS : Hid (SmallB sb) := Lib.hid ⟨by omega, fun b hb => HSB.out.2 b (by rw [← hsb] at hb; exact (sortB_perm _).mem_iff.1 hb)⟩
  have HPU := Lib.hid fun w F F2 F3 F4 h h2 h3 h4 => put20_ok R vs3 hs3 c ad cp l T w F F2 F3 F4 h h2 h3 h4 hcn HSB.out hcm
  have HPK : Hid (∀ (az : Option Addr) (cz : Nat) (w : World) (F F2 F3 F4 : Nat → Prop) (h : (ModA true 128 R vs3 hs3 c).at_ w F) (h2 : (Sl true BatV.cells 8 (.slice az k cz) (l.take k)).at_ w F2) (h3 : (insA true (l.take k)).at_ w F3) (h4 : (outA true (l.take k)).at_ w F4), Calls Tryz.prog 9 #[.pointer (some ⟨R, 0, none⟩), .slice az k cz] w fun e w' => ∃ X, e = .returned (.pointer (some ⟨X, 0, none⟩)) ∧ St (fun _ => False) w w' [traceA X R U]) := Lib.hid fun az cz w F F2 F3 F4 h h2 h3 h4 => by
    have e1 : (l.take k).length = k := by rw [List.length_take]; omega
    have := put20_ok R vs3 hs3 c az cz (l.take k) U w F F2 F3 F4 h (by rw [e1]; exact h2) h3 h4 hcn ⟨by rw [List.length_map, e1]; omega, fun b hb => HSB.out.2 b (by rw [List.map_take] at hb; exact List.mem_of_mem_take hb)⟩ (by rw [List.map_take]; exact hcU)
    rwa [e1] at this
  obtain ⟨m, hm⟩ : ∃ m, l.length = k + m := ⟨l.length - k, by omega⟩
  obtain ⟨cm, hcm2⟩ : ∃ cm, cp = k + cm := ⟨cp - k, by omega⟩
  obtain ⟨da, hda⟩ : ∃ d, (if cp = k then ad else ad.map (·.add (k * 8))) = d := ⟨_, rfl⟩
  have HM := Lib.hid hm
  have HCM := Lib.hid hcm2
  have HDA := Lib.hid hda
  have HCU : Hid (∀ (X : Nat) (w : World) (F : Nat → Prop) (S0 : St F w w [traceA X R U, Sl true BatV.cells 8 (.slice da m cm) (l.drop k), insA true (l.drop k), outA true (l.drop k)]), Calls Tryz.prog 10 #[.pointer (some ⟨X, 0, none⟩), .slice da m cm] w fun e w' => e = .returned (.int .i64 0) ∧ St F w w' [traceA X R T]) := Lib.hid fun X w F S0 => by
    have e1 : (l.drop k).length = m := by rw [List.length_drop]; omega
    have := tcommit_calls X R U da cm (l.drop k) w F (by rw [e1]; exact S0) ⟨by rw [List.length_map, e1]; omega, fun b hb => HSB.out.2 b (by rw [List.map_drop] at hb; exact List.mem_of_mem_drop hb)⟩ hsU.1
    rw [e1, List.map_drop, hcT] at this
    exact this
  have HAL : Hid (∀ (X : Nat) (w : World) (F : Nat → Prop) (h : (traceA X R T).at_ w F), Calls Tryz.prog 12 #[.pointer (some ⟨X, 0, none⟩)] w fun e w' => ∃ a cp d, e = .returned (.slice a l.length cp) ∧ d.map (·.b) = sb ∧ St (fun _ => False) w w' [Mem.Own 52 BatV.cells 8 (.slice a l.length cp) d, owI d, outA false d]) := Lib.hid fun X w F h => by
    have := tall_calls2 X R T _ w F h hsT.1 hsT.2.2 hpT hri
    unfold BatsPost2 at this
    rwa [hsb, hsbl] at this
  have HHT := Lib.hid fun (X : Nat) (w : World) (F F2 F3 : Nat → Prop) h h2 ht => tholds_calls X R vs3 hs3 c T t1 w F F2 F3 h h2 ht HC.out hsT.1 hsT.2.1
  have HHV := Lib.hid fun (X : Nat) (w : World) (F F2 F3 : Nat → Prop) h h2 ht => tholds_calls X R vs3 hs3 c V t1 w F F2 F3 h h2 ht HC.out hsV.1 hsV.2.1
  rw [hHV] at HHV
  generalize holdsE c t1 T = HQ at *
  have HPV : Hid (∀ (av : Option Addr) (cv : Nat) (w : World) (F F2 F3 F4 : Nat → Prop) (h : (ModA true 128 R vs3 hs3 c).at_ w F) (h2 : (Sl true BatV.cells 8 (.slice av (earlyV t1 l).length cv) (earlyV t1 l)).at_ w F2) (h3 : (insA true (earlyV t1 l)).at_ w F3) (h4 : (outA true (earlyV t1 l)).at_ w F4), Calls Tryz.prog 9 #[.pointer (some ⟨R, 0, none⟩), .slice av (earlyV t1 l).length cv] w fun e w' => ∃ X, e = .returned (.pointer (some ⟨X, 0, none⟩)) ∧ St (fun _ => False) w w' [traceA X R V]) := Lib.hid fun av cv w F F2 F3 F4 h h2 h3 h4 =>
    put20_ok R vs3 hs3 c av cv (earlyV t1 l) V w F F2 F3 F4 h h2 h3 h4 hcn ⟨by rw [earlyV_b]; have : (earlyB t1 (l.map (·.b))).length ≤ (l.map (·.b)).length := List.length_filter_le _ _; rw [List.length_map] at this; omega, fun b hb => HSB.out.2 b (by rw [earlyV_b] at hb; exact (List.mem_filter.1 hb).1)⟩ (by rw [earlyV_b]; exact hcV)
  have HSA : Hid (∀ (a1 : Option Addr) (c1 : Nat) (d1 : List BatV) (a2 : Option Addr) (c2 : Nat) (d2 : List BatV) (g1 : d1.map (·.b) = sb) (g2 : d2.map (·.b) = sb) (w : World) (F1 F2 F3 F4 F5 F6 : Nat → Prop) (h1 : (Sl true BatV.cells 8 (.slice a1 l.length c1) d1).at_ w F1) (h2 : (insA true d1).at_ w F2) (h3 : (outA true d1).at_ w F3)
      (h4 : (Sl true BatV.cells 8 (.slice a2 l.length c2) d2).at_ w F4) (h5 : (insA true d2).at_ w F5) (h6 : (outA true d2).at_ w F6), Calls Tryz.prog 11 #[.slice a1 l.length c1, .slice a2 l.length c2] w fun r w' => r = .returned (.bool true) ∧ Below w.heap.size w w') := Lib.hid fun a1 c1 d1 a2 c2 d2 g1 g2 w F1 F2 F3 F4 F5 F6 h1 h2 h3 h4 h5 h6 => by
    have e1 : d1.length = l.length := by have := congrArg List.length g1; rw [List.length_map] at this; omega
    have := tsame_calls a1 c1 d1 a2 c2 d2 w F1 F2 F3 F4 F5 F6 (by rw [e1]; exact h1) h2 h3 (by rw [e1]; exact h4) h5 h6 (by rw [g1, g2]) (by rw [g1]; exact HSBS.out)
    rwa [e1] at this
  have HPL : Hid (∀ (a2 : Option Addr) (c2 : Nat) (d2 : List BatV) (g2 : d2.map (·.b) = sb) (w : World) (F : Nat → Prop) (h : (Sl true BatV.cells 8 (.slice a2 l.length c2) d2).at_ w F), Calls Tryz.prog 13 #[.slice a2 l.length c2] w fun e w' => ∃ a cp, e = .returned (.slice a l.length cp) ∧ St (fun _ => False) w w' [Mem.Own 67 BatV.cells 8 (.slice a l.length cp) d2]) := Lib.hid fun a2 c2 d2 g2 w F h => by
    have e1 : d2.length = l.length := by have := congrArg List.length g2; rw [List.length_map] at this; omega
    have := tplain_calls a2 c2 d2 w F (by rw [e1]; exact h) (by omega)
    rwa [e1] at this
  clear hcm hin hri hIT hcU hIU hcT hcV hIV hinU hsT hsU hinV hsV hpT hHV hsb hsbl hm hcm2 hda
  go_upto_region 8 with first | ((with_reducible apply wps_alloca (E := 34) S); (case hz => exact Tryz.zeroValue34); clear S; intro b6 wz S) | ((with_reducible apply wps_storea (T := 34) S 0 (vs := [.slice aP2 c.programs.length cP2, .slice aL2 c.lps.length cL2, .slice aS2 c.starts.length cS2, .int .i64 c.fin, .int .i64 c.fuel, .int .i64 c.fan]) (m := 6)); (case hx | hy | hi | hm | h1 => rfl); (case hn => exact Nat.le_of_ble_eq_true rfl); (case hT => decide +kernel); clear S; intro wz S; simp only [List.set_cons_zero, List.set_cons_succ, setAll, List.setIfInBounds_toArray] at S) | (go_at_call 7; refine Calls.mono (HF.out _ _ _ _ (S.get (i := 3) rfl).choose_spec (S.get (i := 4) rfl).choose_spec (S.get (i := 5) rfl).choose_spec) ?_; rintro e wz ⟨rfl, hE⟩; replace S := S.ext (Keep.of_below hE); clear hE) | ((with_reducible apply wps_load S 1); (case hx | hi | hu => rfl); (case hT => decide +kernel)) | (go_at_call 9; have hcz := HPU.out _ _ _ _ _ (S.get (i := 2) rfl).choose_spec (S.get (i := 3) rfl).choose_spec (S.get (i := 4) rfl).choose_spec (S.get (i := 5) rfl).choose_spec; (with_reducible refine Calls.mono hcz ?_); clear hcz; rintro e wz ⟨X, rfl, T2⟩; replace S := S.join T2 rfl; clear T2; simp only [List.cons_append, List.nil_append] at S) | ((with_reducible apply wps_load S 2); (case hx | hi | hu => rfl); (case hT => decide +kernel)) | ((with_reducible apply Mem.wps_cut0 (u := k) Tryz.underlying27 sizeBt); (case hx | hhi => rfl); (case h2 => omega)) | (go_at_call 9; refine Calls.mono (HPK.out _ _ _ _ _ _ _ (S.get (i := 3) rfl).choose_spec (sl_take hkl (S.get (i := 4) rfl).choose_spec) (sls_sub true (S.get (i := 5) rfl).choose_spec (fun x hx => List.mem_of_mem_take hx)) (sls_sub true (S.get (i := 6) rfl).choose_spec (fun x hx => List.mem_of_mem_take hx))) ?_; rintro e wz ⟨X2, rfl, T2⟩; replace S := S.join T2 rfl; clear T2; simp only [List.cons_append, List.nil_append] at S)
  have hmc : m ≤ cm := by have := HM.out; have := HCM.out; omega
  replace S := S.also (A' := Sl true BatV.cells 8 (.slice da m cm) (l.drop k)) 5 rfl rfl rfl (fun F h => ⟨F, fun _ hb => hb, sl_drop HM.out HCM.out HDA.out h⟩)
  replace S := S.also (A' := insA true (l.drop k)) 7 rfl rfl rfl (fun F h => ⟨F, fun _ hb => hb, sls_sub true h (fun x hx => List.mem_of_mem_drop hx)⟩)
  replace S := S.also (A' := outA true (l.drop k)) 9 rfl rfl rfl (fun F h => ⟨F, fun _ hb => hb, sls_sub true h (fun x hx => List.mem_of_mem_drop hx)⟩)
  replace S := S.pick [2, 1, 0, 4, 6, 7, 8, 9, 10, 11, 3] rfl
  simp only [pick, nth] at S
  (refine wp_region_wt (soft := [0, 1, 2, 3, 4, 5, 6, 7]) (L := [_, _, _, _, _, _, _, _, _, _]) (T := [_]) S ?hm ?hB ?_); (case hm => kernel_rfl); (case hB => decide +kernel); clear S
  iterate 8
    (with_reducible apply softs_cons)
    (case hw =>
      (with_reducible apply soft_of); (case hi => rfl)
      intro T wz S
      simp only [List.cons_append, List.nil_append] at S
      go_wp2_with first | ((with_reducible apply wps_load S 4); (case hx | hi | hu => rfl); (case hT => decide +kernel)) | ((with_reducible apply Mem.wps_cutK (l := k) (m := m) (cm := cm) (da := da) Tryz.underlying27 sizeBt); (case hx | hlo => rfl); (case hn => exact HM.out); (case hc => exact HCM.out); (case hm => exact hmc); (case hda => exact HDA.out)) | ((with_reducible refine tot_done ?ht ?_); (case ht => kernel_rfl))
      exact ⟨rfl, S⟩)
    (case hs => exact ⟨_, rfl, by kernel_rfl⟩)
  refine softs_nil ?_
  (with_reducible apply W_hard1 (i := 8)); (case hn => rfl); (case hr => decide +kernel)
  intro wz S
  (with_reducible apply hard_of); (case hi => rfl)
  simp only [List.cons_append, List.nil_append] at S
  go_wp2_with first | (go_at_call 10; obtain ⟨Fz, hF, hBk⟩ := S.lend [10] [0, 1, 2] [0, 1, 2, 3, 4, 5, 6, 7, 8, 9] rfl rfl rfl; simp only [List.cons_append, List.nil_append, pick, nth] at hF hBk; refine Calls.mono (HCU.out X2 _ _ hF) ?_; rintro e wz ⟨rfl, T2⟩; replace S := hBk _ _ T2 rfl; clear hBk hF T2; simp only [List.cons_append, List.nil_append] at S; replace S := S.pick [1, 2, 3, 4, 5, 6, 7, 8, 9, 10, 0] rfl; simp only [pick, nth] at S) | ((with_reducible refine tot_done ?ht ?_); (case ht => kernel_rfl))
  refine ⟨_, S, ?_⟩
  clear S
  (refine W_mid (f := 17) (soft := [9, 10, 11, 12, 14]) rfl ?hB ?_); (case hB => decide +kernel)
  iterate 5
    (with_reducible apply softs_cons)
    (case hw =>
      (with_reducible apply soft_of); (case hi => rfl)
      intro T wz S
      simp only [List.cons_append, List.nil_append] at S
      go_wp2_with first | ((with_reducible refine tot_done ?ht ?_); (case ht => kernel_rfl))
      exact ⟨rfl, S⟩)
    (case hs => exact ⟨_, rfl, by kernel_rfl⟩)
  refine softs_nil ?_
  (with_reducible apply W_hard1 (i := 13)); (case hn => rfl); (case hr => decide +kernel)
  intro wz S
  (with_reducible apply hard_of); (case hi => rfl)
  simp only [List.cons_append, List.nil_append] at S
  go_wp2_with first | (go_at_call 12; have hcz := HAL.out X _ _ (S.get (i := 3) rfl).choose_spec; (with_reducible refine Calls.mono hcz ?_); clear hcz; rintro e wz ⟨a3, c3, d3, rfl, hd3, T2⟩; have HD3 := Lib.hid hd3; clear hd3; replace S := S.join T2 rfl; clear T2; simp only [List.cons_append, List.nil_append] at S) | ((with_reducible refine tot_done ?ht ?_); (case ht => kernel_rfl))
  refine ⟨_, S.pick [3, 4, 5, 6, 7, 8, 9, 10, 11, 12, 13, 2, 1, 0] rfl, ?_⟩
  clear S
  (with_reducible apply W_hard1 (i := 15)); (case hn => rfl); (case hr => decide +kernel)
  intro wz S
  (with_reducible apply hard_of); (case hi => rfl)
  simp only [List.cons_append, List.nil_append] at S
  go_wp2_with first | (go_at_call 12; have hcz := HAL.out X2 _ _ (S.get (i := 10) rfl).choose_spec; (with_reducible refine Calls.mono hcz ?_); clear hcz; rintro e wz ⟨a4, c4, d4, rfl, hd4, T2⟩; have HD4 := Lib.hid hd4; clear hd4; replace S := S.join T2 rfl; clear T2; simp only [List.cons_append, List.nil_append] at S) | ((with_reducible refine tot_done ?ht ?_); (case ht => kernel_rfl))
  refine ⟨_, S.pick [3, 4, 5, 6, 7, 8, 9, 10, 11, 12, 13, 14, 15, 16, 2, 1, 0] rfl, ?_⟩
  clear S
  (with_reducible apply W_hard1 (i := 16)); (case hn => rfl); (case hr => decide +kernel)
  intro wz S
  (with_reducible apply hard_of); (case hi => rfl)
  simp only [List.cons_append, List.nil_append] at S
  go_wp2_with first | (go_at_call 13; refine Calls.mono (HPL.out a4 c4 d4 HD4.out _ _ (own_sl (sh := true) bvcells (S.get (i := 16) rfl).choose_spec)) ?_; rintro e wz ⟨a5, c5, rfl, T2⟩; replace S := S.join T2 rfl; clear T2; simp only [List.cons_append, List.nil_append] at S) | ((with_reducible refine tot_done ?ht ?_); (case ht => kernel_rfl))
  refine ⟨_, S.pick [1, 2, 3, 4, 5, 6, 7, 8, 9, 10, 11, 12, 13, 14, 15, 16, 17, 0] rfl, ?_⟩
  clear S
  (with_reducible apply W_hard1 (i := 17)); (case hn => rfl); (case hr => decide +kernel)
  intro wz S
  (with_reducible apply hard_of); (case hi => rfl)
  simp only [List.cons_append, List.nil_append] at S
  go_wp2_with first | (go_at_call 11; refine Calls.mono (HSA.out a3 c3 d3 a5 c5 d4 HD3.out HD4.out _ _ _ _ _ _ _ (own_sl (sh := true) bvcells (S.get (i := 13) rfl).choose_spec) (ows_sls ecells (S.get (i := 12) rfl).choose_spec) (sls_sub true (S.get (i := 11) rfl).choose_spec (fun x hx => hx)) (own_sl (sh := true) bvcells (S.get (i := 17) rfl).choose_spec) (ows_sls ecells (S.get (i := 15) rfl).choose_spec) (sls_sub true (S.get (i := 14) rfl).choose_spec (fun x hx => hx))) ?_; rintro e wz ⟨rfl, hE⟩; replace S := S.ext (Keep.of_below hE); clear hE) | ((with_reducible refine tot_done ?ht ?_); (case ht => kernel_rfl))
  refine ⟨_, S, ?_⟩
  clear S
  (refine W_mid (f := 3) (soft := [18, 19, 20, 21, 22, 23, 24, 25, 26, 27]) rfl ?hB ?_); (case hB => decide +kernel)
  iterate 10
    (with_reducible apply softs_cons)
    (case hw =>
      (with_reducible apply soft_of); (case hi => rfl)
      intro T wz S
      simp only [List.cons_append, List.nil_append] at S
      go_wp2_with first | ((with_reducible apply wps_load S 4); (case hx | hi | hu => rfl); (case hT => decide +kernel)) | (go_at_call 14; have hcz := HHT.out X _ _ _ _ (S.get (i := 3) rfl).choose_spec (S.get (i := 5) rfl).choose_spec (S.get (i := 9) rfl).choose_spec; (with_reducible refine Calls.mono hcz ?_); clear hcz; rintro e wz ⟨rfl, hE⟩; replace S := S.ext (Keep.of_below hE); clear hE) | ((with_reducible refine tot_done ?ht ?_); (case ht => kernel_rfl))
      exact ⟨rfl, S⟩)
    (case hs => exact ⟨_, rfl, by kernel_rfl⟩)
  refine softs_nil ?_
  (with_reducible apply W_hard1 (i := 28)); (case hn => rfl); (case hr => decide +kernel)
  intro wz S
  (with_reducible apply hard_of); (case hi => rfl)
  simp only [List.cons_append, List.nil_append] at S
  go_wp2_with first | (go_at_call 14; have hcz := HHT.out X2 _ _ _ _ (S.get (i := 10) rfl).choose_spec (S.get (i := 5) rfl).choose_spec (S.get (i := 9) rfl).choose_spec; (with_reducible refine Calls.mono hcz ?_); clear hcz; rintro e wz ⟨rfl, hE⟩; replace S := S.ext (Keep.of_below hE); clear hE) | ((with_reducible refine tot_done ?ht ?_); (case ht => kernel_rfl))
  refine ⟨_, S, ?_⟩
  clear S
  (refine W_mid (f := 0) (soft := [29, 30]) rfl ?hB ?_); (case hB => decide +kernel)
  iterate 2
    (with_reducible apply softs_cons)
    (case hw =>
      (with_reducible apply soft_of); (case hi => rfl)
      intro T wz S
      simp only [List.cons_append, List.nil_append] at S
      go_wp2_with first | ((with_reducible refine tot_done ?ht ?_); (case ht => kernel_rfl))
      exact ⟨rfl, S⟩)
    (case hs => exact ⟨_, rfl, by kernel_rfl⟩)
  refine softs_nil ?_
  (with_reducible apply W_done); (case hn => rfl); (case hr => decide +kernel)
  intro wz S
  repeat (first | simp only at S | simp only [pick] at S | simp only [nth] at S | simp only [List.set_cons_succ] at S | simp only [List.set_cons_zero] at S | simp only [List.setIfInBounds_toArray] at S | simp only [setAll] at S | simp only [List.cons_append] at S | simp only [List.nil_append] at S | simp only [List.append_nil] at S)
  go_upto_region 11 with first | (go_at_call 12; have hcz := HAL.out X _ _ (S.get (i := 3) rfl).choose_spec; (with_reducible refine Calls.mono hcz ?_); clear hcz; rintro e wz ⟨a6, c6, d6, rfl, hd6, T2⟩; have HD6 := Lib.hid hd6; clear hd6; replace S := S.join T2 rfl; clear T2; simp only [List.cons_append, List.nil_append] at S)
  replace S := S.pick [0, 1, 6, 13, 7, 8, 9, 10, 11, 12] rfl
  simp only [pick, nth] at S
  replace S := S.rooms 1 ecells rfl
  simp only [List.set_cons_zero, List.set_cons_succ] at S
  have HD6L : Hid (d6.length = l.length) := Lib.hid (by have := congrArg List.length HD6.out; rw [List.length_map] at this; rw [this]; exact HSBL.out)
  have hl6 : (l.length : Int) ≤ 40 := by omega
  go_wp2_with first | ((with_reducible apply wps_loada (T := 52) (k := 8) S 0); (case hx | hi => rfl); (case hk => exact Nat.le_of_ble_eq_true rfl); (case hT => decide +kernel))
  go_loopw [12] (fun i wr => WrRel20 _ d6 l.length (.slice a6 l.length c6) w i wr) (fun i _ => l.length - (intOf i).toNat)
  case atStart => exact ⟨0, d6, Nat.zero_le _, rfl, Lib.hid rfl, HD6L, S⟩
  case round =>
    clear S
    obtain ⟨j, d2, hj, rfl, HVI, HVL, S⟩ := hrel
    by_cases hlt : j < l.length
    · obtain ⟨x, hx⟩ : ∃ x, d2[j]? = some x := ⟨_, List.getElem?_eq_getElem (by have := HVL.out; omega)⟩
      have hlt2 : (j : Int) < l.length := by omega
      obtain ⟨Rr, crr, e⟩ := own_hd 0 S rfl (by have := HVL.out; omega)
      simp only [Value.slice.injEq] at e
      obtain ⟨rfl, hq, rfl⟩ := e
      have hvj : (d6.map (·.vi))[j]? = some x.vi := by rw [← HVI.out, List.getElem?_map, hx]; rfl
      have hxn : x.b.ins.length ≤ 65536 := by
        have h1 : x.vi ∈ d6.map (·.vi) := List.mem_of_getElem? hvj
        obtain ⟨y, hy, e⟩ := List.mem_map.1 h1
        have h2 : x.b.ins.length = y.b.ins.length := by unfold BatV.vi at e; simp only [Value.slice.injEq] at e; exact e.2.1.symm
        have h3 := HSBS.out.2 y.b (by rw [← HD6.out]; exact List.mem_map.2 ⟨y, hy, rfl⟩)
        omega
      have HX := Lib.hid hx
      have HVJ := Lib.hid hvj
      clear hq hx hvj
      obtain ⟨⟨xat, xlp, xins, xthn, xsent⟩, xai, xci, xao, xco⟩ := x
      simp only [BatV.vi] at HVJ hxn
      go_wp2_with first | ((with_reducible apply wps_loada (T := 52) (k := 8) S 0); (case hx | hi => rfl); (case hk => exact Nat.le_of_ble_eq_true rfl); (case hT => decide +kernel))
      go_loopw [13] (fun i wr => WrRelB20 _ xins.length w i wr) (fun i _ => xins.length - (intOf i).toNat)
      case atStart => exact ⟨0, Nat.zero_le _, rfl, S⟩
      case round =>
        clear S
        obtain ⟨q, hq, rfl, S⟩ := hrel
        by_cases hqt : q < xins.length
        · have hqt2 : (q : Int) < xins.length := by omega
          obtain ⟨rad, rn, rc, re, rh⟩ := S.roomForm 1 rfl HVJ.out
          simp only [Value.slice.injEq] at re
          obtain ⟨rfl, rfl, rfl⟩ := re
          obtain ⟨Re, rfl⟩ := rh (by omega)
          clear rh
          go_wp2_with first | ((with_reducible apply wps_load_own bvcells S 0 (hj := HX.out) (q := 2) (u := .slice (some ⟨Re, 0, none⟩) xins.length xci)); (case hx | hi => rfl); (case hn => omega); (case hu => rfl); (case hT => decide +kernel)) | ((with_reducible apply wps_store_room S 1 (j := q) (hv := HVJ.out) (us := [.int .i64 0, .int .i64 0, .int .i64 0, .int .i64 0, .int .i64 0, .int .i64 0, .int .i64 0])); (case hx | hi => rfl); (case hn | hj => omega); (case hy | hm | h1 => rfl); (case hT => decide +kernel); clear S; intro wz S)
          go_roundw
          case rel => exact ⟨q + 1, by omega, by go_num, S⟩
          case measure => simp [intOf]; omega
        · obtain rfl : q = xins.length := by omega
          have HV2 : Hid ((d2.set j (⟨⟨-1, xlp, xins, xthn, xsent⟩, xai, xci, xao, xco⟩ : BatV)).map (·.vi) = d6.map (·.vi)) := Lib.hid (by
            rw [List.map_set, HVI.out]
            exact List.ext_getElem? fun i => by
              rw [List.getElem?_set]
              by_cases e : j = i
              · subst e
                have hv : (d6.map (·.vi))[j]? = some (.slice xai xins.length xci) := HVJ.out
                rw [if_pos rfl, hv]
                split
                · rfl
                · rename_i g
                  have := (List.getElem?_eq_some_iff.1 hv).1
                  exact absurd this g
              · rw [if_neg e])
          have HVL2 : Hid ((d2.set j (⟨⟨-1, xlp, xins, xthn, xsent⟩, xai, xci, xao, xco⟩ : BatV)).length = l.length) := Lib.hid (by rw [List.length_set]; exact HVL.out)
          clear hqt hq
          go_wp2_with first | ((with_reducible apply wps_load_own bvcells S 0 (hj := HX.out) (q := 2) (u := .slice xai xins.length xci)); (case hx | hi => rfl); (case hn => omega); (case hu => rfl); (case hT => decide +kernel)) | ((with_reducible apply wps_store_own bvcells S 0 (hj := HX.out) (e' := (⟨⟨-1,xlp,xins,xthn,xsent⟩,xai,xci,xao,xco⟩:BatV)) (q := 0)); (case hx => rfl); (case hn => omega); (case hi | hy | h1 | he => rfl); (case hq => decide); (case hT => decide +kernel); clear S; intro wz S; simp only [List.set_cons_zero] at S)
          go_roundw
          case rel => exact ⟨j + 1, d2.set j ⟨⟨-1, xlp, xins, xthn, xsent⟩, xai, xci, xao, xco⟩, by omega, by go_num, HV2, HVL2, S⟩
          case measure => simp [intOf]; omega
    · obtain rfl : j = l.length := by omega
      clear hlt hj HVI HVL
      replace S := S.pick [2, 3, 4, 5, 6, 7, 8, 9] rfl
      simp only [pick, nth] at S
      go_upto_region 22 with first | (go_at_call 12; have hcz := HAL.out X _ _ (S.get (i := 0) rfl).choose_spec; (with_reducible refine Calls.mono hcz ?_); clear hcz; rintro e wz ⟨a7, c7, d7, rfl, hd7, T2⟩; have HD7 := Lib.hid hd7; clear hd7; replace S := S.join T2 rfl; clear T2; simp only [List.cons_append, List.nil_append] at S) | (go_at_call 12; have hcz := HAL.out X2 _ _ (S.get (i := 4) rfl).choose_spec; (with_reducible refine Calls.mono hcz ?_); clear hcz; rintro e wz ⟨a8, c8, d8, rfl, hd8, T2⟩; have HD8 := Lib.hid hd8; clear hd8; replace S := S.join T2 rfl; clear T2; simp only [List.cons_append, List.nil_append] at S) | (go_at_call 13; refine Calls.mono (HPL.out a8 c8 d8 HD8.out _ _ (own_sl (sh := true) bvcells (S.get (i := 0) rfl).choose_spec)) ?_; rintro e wz ⟨a9, c9, rfl, T2⟩; replace S := S.join T2 rfl; clear T2; simp only [List.cons_append, List.nil_append] at S) | (go_at_call 11; refine Calls.mono (HSA.out a7 c7 d7 a9 c9 d8 HD7.out HD8.out _ _ _ _ _ _ _ (own_sl (sh := true) bvcells (S.get (i := 4) rfl).choose_spec) (ows_sls ecells (S.get (i := 5) rfl).choose_spec) (sls_sub true (S.get (i := 6) rfl).choose_spec (fun x hx => hx)) (own_sl (sh := true) bvcells (S.get (i := 0) rfl).choose_spec) (ows_sls ecells (S.get (i := 2) rfl).choose_spec) (sls_sub true (S.get (i := 3) rfl).choose_spec (fun x hx => hx))) ?_; rintro e wz ⟨rfl, hE⟩; replace S := S.ext (Keep.of_below hE); clear hE)
      replace S := (S.pick [7, 8, 9, 10, 11, 12, 13, 14] rfl)
      simp only [pick, nth] at S
      replace S := S.nil 52 BatV.cells 8
      go_wp2_with first | ((with_reducible apply wps_loada (T := 52) (k := 8) S 0); (case hx | hi => rfl); (case hk => exact Nat.le_of_ble_eq_true rfl); (case hT => decide +kernel))
      go_loopw [14, 15] (fun v i wr => EarRel20 _ l t1 w v i wr) (fun _ i _ => l.length - (intOf i).toNat)
      case atStart => exact ⟨0, Nat.zero_le _, rfl, S⟩
      case round =>
        clear S
        obtain ⟨j, hj, rfl, S⟩ := hrel
        obtain ⟨ev, HEV⟩ : ∃ e, Hid (earlyV t1 (l.take j) = e) := ⟨_, rfl⟩
        rw [HEV.out] at S
        have hevl : ev.length < 4294967296 := by
          have : (earlyV t1 (l.take j)).length ≤ (l.take j).length := List.length_filter_le _ _
          rw [HEV.out, List.length_take] at this; omega
        obtain ⟨ae, ce, rfl, _⟩ := (S.ownsl bvcells 0 rfl).elim fun _ h => h.form
        by_cases hlt : j < l.length
        · obtain ⟨x, hx⟩ : ∃ x, l[j]? = some x := ⟨_, List.getElem?_eq_getElem hlt⟩
          have hlt2 : (j : Int) < l.length := by omega
          obtain ⟨R0, o0, rfl⟩ : ∃ R o, ad = some ⟨R, o, none⟩ := (S.sl 5 rfl).elim fun F h => h.head (by omega)
          have HES := Lib.hid (earlyV_snoc (u := t1) hx)
          have HX := Lib.hid hx
          clear hx
          obtain ⟨⟨xat, xlp, xins, xthn, xsent⟩, xai, xci, xao, xco⟩ := x
          by_cases hxt : xat < t1
          · have f4 : decide (xat < t1) = true := decide_eq_true hxt
            have HE2 : Hid (earlyV t1 (l.take (j + 1)) = ev ++ [(⟨⟨xat, xlp, xins, xthn, xsent⟩, xai, xci, xao, xco⟩ : BatV)]) := Lib.hid (by rw [HES.out, HEV.out, if_pos hxt])
            clear hxt
            go_wp2_with first | ((with_reducible apply wps_loada (T := 52) (k := 8) S 0); (case hx | hi => rfl); (case hk => exact Nat.le_of_ble_eq_true rfl); (case hT => decide +kernel))
            (refine wp_region_w (soft := [0, 1, 2, 3, 4, 5, 6, 7]) S ?hm ?hB ?_); (case hm => kernel_rfl); (case hB => decide +kernel); clear S
            iterate 8
              (with_reducible apply softs_cons)
              (case hw =>
                (with_reducible apply soft_of); (case hi => rfl)
                intro T wz S
                simp only [List.cons_append, List.nil_append] at S
                go_wp2_with first | ((with_reducible apply wps_load_el S 5 (hj := HX.out) (q := 0) (u := .int .i64 xat)); (case hx | hi => rfl); (case hn => omega); (case hu => rfl); (case hT => decide +kernel)) | ((with_reducible apply wps_load S 3); (case hx | hi | hu => rfl); (case hT => decide +kernel)) | ((with_reducible refine tot_done ?ht ?_); (case ht => kernel_rfl))
                exact ⟨rfl, S⟩)
              (case hs => exact ⟨_, rfl, by kernel_rfl⟩)
            refine softs_nil ?_
            (with_reducible apply W_done); (case hn => rfl); (case hr => decide +kernel)
            intro wz S
            simp only [List.append_nil] at S
            go_wp2_with first | ((with_reducible apply wps_loada_el S 5 (hj := HX.out) (q := 0) (vs := [.int .i64 (⟨⟨xat,xlp,xins,xthn,xsent⟩,xai,xci,xao,xco⟩:BatV).b.at_, .int .i64 (⟨⟨xat,xlp,xins,xthn,xsent⟩,xai,xci,xao,xco⟩:BatV).b.lp, (⟨⟨xat,xlp,xins,xthn,xsent⟩,xai,xci,xao,xco⟩:BatV).vi, .int .i64 (⟨⟨xat,xlp,xins,xthn,xsent⟩,xai,xci,xao,xco⟩:BatV).b.thn.n0, .int .i64 (⟨⟨xat,xlp,xins,xthn,xsent⟩,xai,xci,xao,xco⟩:BatV).b.thn.n1, .int .i64 (⟨⟨xat,xlp,xins,xthn,xsent⟩,xai,xci,xao,xco⟩:BatV).b.thn.n2, .int .i64 (⟨⟨xat,xlp,xins,xthn,xsent⟩,xai,xci,xao,xco⟩:BatV).b.thn.n3, (⟨⟨xat,xlp,xins,xthn,xsent⟩,xai,xci,xao,xco⟩:BatV).vo]) (m := 8)); (case hx | hi => rfl); (case hn => omega); (case hm | hv => rfl); (case hT => decide +kernel)) | ((with_reducible apply wps_build1a (T := 27) (E := 52) S); (case hx => rfl); (case hr => intro w; kernel_rfl); clear S; intro bz wz S) | ((with_reducible apply wps_append1 elem_Bat bvcells bvone (by decide) S 1 (j := 0) (e := (⟨⟨xat,xlp,xins,xthn,xsent⟩,xai,xci,xao,xco⟩ : BatV))); (case hx | hy | hi | hj | he => rfl); (case hl => omega); clear S; intro az nz cz wz hnz S; simp only [List.set_cons_succ, List.set_cons_zero] at S)
            go_roundw
            case rel =>
              refine ⟨j + 1, by omega, by go_num, ?_⟩
              rw [HE2.out]
              exact S.pick [1, 2, 3, 4, 5, 6, 7, 8, 9] rfl
            case measure => simp [intOf]; omega
          · have f4 : decide (xat < t1) = false := decide_eq_false hxt
            have HE2 : Hid (earlyV t1 (l.take (j + 1)) = ev) := Lib.hid (by rw [HES.out, HEV.out, if_neg hxt, List.append_nil])
            clear hxt
            go_wp2_with first | ((with_reducible apply wps_loada (T := 52) (k := 8) S 0); (case hx | hi => rfl); (case hk => exact Nat.le_of_ble_eq_true rfl); (case hT => decide +kernel))
            (refine wp_region_w (soft := [0, 1, 2, 3, 4, 5, 6, 7]) S ?hm ?hB ?_); (case hm => kernel_rfl); (case hB => decide +kernel); clear S
            iterate 8
              (with_reducible apply softs_cons)
              (case hw =>
                (with_reducible apply soft_of); (case hi => rfl)
                intro T wz S
                simp only [List.cons_append, List.nil_append] at S
                go_wp2_with first | ((with_reducible apply wps_load_el S 5 (hj := HX.out) (q := 0) (u := .int .i64 xat)); (case hx | hi => rfl); (case hn => omega); (case hu => rfl); (case hT => decide +kernel)) | ((with_reducible apply wps_load S 3); (case hx | hi | hu => rfl); (case hT => decide +kernel)) | ((with_reducible refine tot_done ?ht ?_); (case ht => kernel_rfl))
                exact ⟨rfl, S⟩)
              (case hs => exact ⟨_, rfl, by kernel_rfl⟩)
            refine softs_nil ?_
            (with_reducible apply W_done); (case hn => rfl); (case hr => decide +kernel)
            intro wz S
            simp only [List.append_nil] at S
            go_wp2_with first | ((with_reducible apply wps_loada (T := 52) (k := 8) S 0); (case hx | hi => rfl); (case hk => exact Nat.le_of_ble_eq_true rfl); (case hT => decide +kernel))
            go_roundw
            case rel =>
              refine ⟨j + 1, by omega, by go_num, ?_⟩
              rw [HE2.out]
              exact S
            case measure => simp [intOf]; omega
        · obtain rfl : j = l.length := by omega
          rw [List.take_length] at HEV
          have HEM : Hid (∀ x ∈ ev, x ∈ l) := Lib.hid fun x hx => by rw [← HEV.out] at hx; exact (List.mem_filter.1 hx).1
          rw [HEV.out] at HPV
          clear hlt hj
          go_upto_region 28 with first | (go_at_call 9; refine Calls.mono (HPV.out _ _ _ _ _ _ _ (S.get (i := 4) rfl).choose_spec (own_sl (sh := true) bvcells (S.get (i := 0) rfl).choose_spec) (sls_sub true (S.get (i := 6) rfl).choose_spec HEM.out) (sls_sub true (S.get (i := 7) rfl).choose_spec HEM.out)) ?_; rintro e wz ⟨X3, rfl, T2⟩; replace S := S.join T2 rfl; clear T2; simp only [List.cons_append, List.nil_append] at S)
          (refine wp_region_w (soft := [0, 1, 2, 3, 4, 5, 6, 7, 8, 9, 10, 11, 12, 13, 14, 15, 16]) S ?hm ?hB ?_); (case hm => kernel_rfl); (case hB => decide +kernel); clear S
          iterate 17
            (with_reducible apply softs_cons)
            (case hw =>
              (with_reducible apply soft_of); (case hi => rfl)
              intro T wz S
              simp only [List.cons_append, List.nil_append] at S
              go_wp2_with first | ((with_reducible apply wps_load S 4); (case hx | hi | hu => rfl); (case hT => decide +kernel)) | (go_at_call 14; have hcz := HHV.out X3 _ _ _ _ (S.get (i := 0) rfl).choose_spec (S.get (i := 5) rfl).choose_spec (S.get (i := 9) rfl).choose_spec; (with_reducible refine Calls.mono hcz ?_); clear hcz; rintro e wz ⟨rfl, hE⟩; replace S := S.ext (Keep.of_below hE); clear hE) | (go_at_call 14; have hcz := HHT.out X _ _ _ _ (S.get (i := 2) rfl).choose_spec (S.get (i := 5) rfl).choose_spec (S.get (i := 9) rfl).choose_spec; (with_reducible refine Calls.mono hcz ?_); clear hcz; rintro e wz ⟨rfl, hE⟩; replace S := S.ext (Keep.of_below hE); clear hE) | (go_at_call 8; refine Calls.mono (awake20_calls _ _ (S.get (i := 9) rfl).choose_spec) ?_; rintro e wz ⟨rfl, hE⟩; replace S := S.ext (Keep.of_below hE); clear hE) | ((with_reducible refine tot_done ?ht ?_); (case ht => kernel_rfl))
              exact ⟨rfl, S⟩)
            (case hs => exact ⟨_, rfl, by kernel_rfl⟩)
          refine softs_nil ?_
          (with_reducible apply W_done); (case hn => rfl); (case hr => decide +kernel)
          intro wz S
          simp only [List.append_nil] at S
          go_wp2_with first | ((with_reducible apply wps_loada (T := 52) (k := 8) S 0); (case hx | hi => rfl); (case hk => exact Nat.le_of_ble_eq_true rfl); (case hT => decide +kernel))
          go_ret
          exact ⟨rfl, S.below⟩
end Go.Proofs.YtcnfionnnpnplaaGreatDoor

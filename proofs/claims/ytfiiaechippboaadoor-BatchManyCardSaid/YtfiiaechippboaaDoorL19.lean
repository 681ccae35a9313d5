import Derived.Test.YtfiiaechippboaaDoorL18
import Derived.Test.YtfiiaechippboaaDoorL25
import Derived.Test.YtfiiaechippboaaDoorL27
/- The walks of batch.Replay and batch.Sends. -/
namespace Go.Proofs.YtfiiaechippboaaDoor
open Go Go.RowKit Reg Mem

theorem manyU {c : Cfg} {lp : Int} {s : State} {l : List Event} {w : World} {r : Ending} {w' : World} (h : ManyPost c lp s l w r w') :
    ∃ v, r = .returned (.tuple #[.agg #[.int .i64 (manyC c lp s l).1.n0, .int .i64 (manyC c lp s l).1.n1, .int .i64 (manyC c lp s l).1.n2, .int .i64 (manyC c lp s l).1.n3], v, .int .i64 (aloneE c.lps.length lp l)]) ∧ St (fun _ => False) w w' [Mem.Own 54 Event.cells 7 v (manyC c lp s l).2] := by
  unfold manyC
  rcases h with ⟨hne, rfl, hE⟩ | ⟨h0, v, rfl, S⟩
  · rw [if_neg hne]
    exact ⟨_, rfl, ((St.init _ w).ext (Keep.of_below hE)).nil 54 Event.cells 7⟩
  · rw [if_pos h0, h0]
    exact ⟨v, rfl, S⟩
set_option maxRecDepth 100000 in
set_option maxHeartbeats 8000000 in
theorem bReplay_calls (R : Nat) (vs hs : List Value) (c : Cfg) (lp : Int) (s : State) (v : Value) (l : List Event) (w : World) (F F2 F3 : Nat → Prop) (h : (ModA true 93 R vs hs c).at_ w F) (h2 : (Sl true Event.cells 7 v l).at_ w F2) (ht : Tab.at_ w F3) (hn : l.length ≤ 16384)
    (hc : cfgE c = 0) (hat : aloneE c.lps.length lp l = 0 → ∀ x ∈ l, 0 ≤ x.key.at_ ∧ x.key.at_ ≤ 1073741824) :
    Calls Tryd.prog 21 #[.pointer (some ⟨R, 0, none⟩), .int .i64 lp, .agg #[.int .i64 s.n0, .int .i64 s.n1, .int .i64 s.n2, .int .i64 s.n3], v] w fun r w' => r = .returned (.tuple #[.agg #[.int .i64 (manyC c lp s l).1.n0, .int .i64 (manyC c lp s l).1.n1, .int .i64 (manyC c lp s l).1.n2, .int .i64 (manyC c lp s l).1.n3], .int .i64 (aloneE c.lps.length lp l)]) ∧ Below w.heap.size w w' := by
  have S : St (fun _ => False) w w [ModA true 93 R vs hs c, Sl true Event.cells 7 v l, Tab] := (((St.init _ w).share rfl rfl ht).share (A := Sl true Event.cells 7 v l) rfl rfl h2).share rfl rfl h
  obtain ⟨ad, cp, rfl, _⟩ := (S.sl 1 rfl).elim fun _ h => h.form
  clear h h2 ht
  have HR := Lib.hid fun w F F2 F3 h h2 h3 => (replay_calls R vs hs c lp s (.slice ad l.length cp) l w F F2 F3 h h2 h3 hn hc hat).mono fun r w' h => manyU h
  obtain ⟨st, hst⟩ : ∃ st, manyC c lp s l = st := ⟨_, rfl⟩
  obtain ⟨e, he⟩ : ∃ e, aloneE c.lps.length lp l = e := ⟨_, rfl⟩
  rw [hst, he] at HR
  have Hst := Lib.hid hst
  have He := Lib.hid he
  clear hst he
  clear hat hc
  go_enter Tryd.func21, Tryd.ntmps21
  go_wp2_with first | ((with_reducible apply wps_boxa (E := 28) S); (case hx => rfl); clear S; intro b6 wz S) | ((with_reducible apply wps_alloca (E := 28) S); (case hz => exact Tryd.zeroValue28); clear S; intro b8 wz S) | ((with_reducible apply wps_loada (T := 28) (k := 4) S 1); (case hx | hi => rfl); (case hk => exact Nat.le_of_ble_eq_true rfl); (case hT => decide +kernel)) | (go_at_call 40; refine Calls.mono (HR.out _ _ _ _ (S.get (i := 2) rfl).choose_spec (S.get (i := 3) rfl).choose_spec (S.get (i := 4) rfl).choose_spec) ?_; rintro r wz ⟨v2, rfl, T⟩; obtain ⟨ad2, cp2, rfl, _⟩ := (T.ownsl ecells 0 rfl).elim fun _ h => h.form; replace S := S.join T rfl; clear T; simp only [List.cons_append, List.nil_append] at S) | ((with_reducible apply wps_storea (T := 28) S 2 (vs := [.int .i64 st.1.n0, .int .i64 st.1.n1, .int .i64 st.1.n2, .int .i64 st.1.n3]) (m := 4)); (case hx | hy | hi | hm | h1 => rfl); (case hn => exact Nat.le_of_ble_eq_true rfl); (case hT => decide +kernel); clear S; intro wz S; simp only [List.set_cons_zero, List.set_cons_succ, setAll, List.setIfInBounds_toArray] at S) | ((with_reducible apply wps_storea (T := 28) S 1 (vs := [.int .i64 st.1.n0, .int .i64 st.1.n1, .int .i64 st.1.n2, .int .i64 st.1.n3]) (m := 4)); (case hx | hy | hi | hm | h1 => rfl); (case hn => exact Nat.le_of_ble_eq_true rfl); (case hT => decide +kernel); clear S; intro wz S; simp only [List.set_cons_zero, List.set_cons_succ, setAll, List.setIfInBounds_toArray] at S) | ((with_reducible apply wps_loada (T := 28) (k := 4) S 2); (case hx | hi => rfl); (case hk => exact Nat.le_of_ble_eq_true rfl); (case hT => decide +kernel))
  (try simp only [Exit.inBlock, Exit.then]); refine bodyPost_ret (results2 rfl (S.resA 1 rfl rfl (by kernel_rfl)) (res_tmp rfl)) rfl ?_
  rw [Hst.out, He.out]
  exact ⟨rfl, S.below⟩
set_option maxRecDepth 100000 in
set_option maxHeartbeats 8000000 in
theorem bSends_calls (R : Nat) (vs hs : List Value) (c : Cfg) (lp : Int) (s : State) (v : Value) (l : List Event) (w : World) (F F2 F3 : Nat → Prop) (h : (ModA true 93 R vs hs c).at_ w F) (h2 : (Sl true Event.cells 7 v l).at_ w F2) (ht : Tab.at_ w F3) (hn : l.length ≤ 16384)
    (hc : cfgE c = 0) (hat : aloneE c.lps.length lp l = 0 → ∀ x ∈ l, 0 ≤ x.key.at_ ∧ x.key.at_ ≤ 1073741824) :
    Calls Tryd.prog 22 #[.pointer (some ⟨R, 0, none⟩), .int .i64 lp, .agg #[.int .i64 s.n0, .int .i64 s.n1, .int .i64 s.n2, .int .i64 s.n3], v] w fun r w' => ∃ v, r = .returned (.tuple #[v, .int .i64 (aloneE c.lps.length lp l)]) ∧ St (fun _ => False) w w' [Mem.Own 54 Event.cells 7 v (manyC c lp s l).2] := by
  have S : St (fun _ => False) w w [ModA true 93 R vs hs c, Sl true Event.cells 7 v l, Tab] := (((St.init _ w).share rfl rfl ht).share (A := Sl true Event.cells 7 v l) rfl rfl h2).share rfl rfl h
  obtain ⟨ad, cp, rfl, _⟩ := (S.sl 1 rfl).elim fun _ h => h.form
  clear h h2 ht
  have HR := Lib.hid fun w F F2 F3 h h2 h3 => (replay_calls R vs hs c lp s (.slice ad l.length cp) l w F F2 F3 h h2 h3 hn hc hat).mono fun r w' h => manyU h
  obtain ⟨st, hst⟩ : ∃ st, manyC c lp s l = st := ⟨_, rfl⟩
  obtain ⟨e, he⟩ : ∃ e, aloneE c.lps.length lp l = e := ⟨_, rfl⟩
  rw [hst, he] at HR
  have Hst := Lib.hid hst
  have He := Lib.hid he
  clear hst he
  clear hat hc
  go_enter Tryd.func22, Tryd.ntmps22
  go_wp2_with first | ((with_reducible apply wps_boxa (E := 28) S); (case hx => rfl); clear S; intro b6 wz S) | ((with_reducible apply wps_loada (T := 28) (k := 4) S 0); (case hx | hi => rfl); (case hk => exact Nat.le_of_ble_eq_true rfl); (case hT => decide +kernel)) | (go_at_call 40; refine Calls.mono (HR.out _ _ _ _ (S.get (i := 1) rfl).choose_spec (S.get (i := 2) rfl).choose_spec (S.get (i := 3) rfl).choose_spec) ?_; rintro r wz ⟨v2, rfl, T⟩; obtain ⟨ad2, cp2, rfl, _⟩ := (T.ownsl ecells 0 rfl).elim fun _ h => h.form; replace S := S.join T rfl; clear T; simp only [List.cons_append, List.nil_append] at S) | ((with_reducible apply wps_alloca (E := 28) S); (case hz => exact Tryd.zeroValue28); clear S; intro b10 wz S) | ((with_reducible apply wps_storea (T := 28) S 0 (vs := [.int .i64 st.1.n0, .int .i64 st.1.n1, .int .i64 st.1.n2, .int .i64 st.1.n3]) (m := 4)); (case hx | hy | hi | hm | h1 => rfl); (case hn => exact Nat.le_of_ble_eq_true rfl); (case hT => decide +kernel); clear S; intro wz S; simp only [List.set_cons_zero, List.set_cons_succ, setAll, List.setIfInBounds_toArray] at S)
  (try simp only [Exit.inBlock, Exit.then]); refine bodyPost_ret (results2 rfl (res_tmp rfl) (res_tmp rfl)) rfl ?_
  rw [Hst.out, He.out]
  exact ⟨_, rfl, S.pick [1] rfl⟩
end Go.Proofs.YtfiiaechippboaaDoor
/- Plain: what a process makes of batches in two parts, and of events in another order. No program in sight. -/
namespace Go.Proofs.YtfiiaechippboaaDoor
open Go Go.RowKit Mem

def isEarly (t : Int) (x : Event) : Bool := decide (x.key.at_ < t)
def earlyE (t : Int) (l : List Event) : List Event := l.filter (isEarly t)
def lateE (t : Int) (l : List Event) : List Event := l.filter (fun x => !isEarly t x)
theorem steps_out (c : Cfg) (lp : Int) : ∀ (gs : List (List Event)) (s : State) (o : List Event), gs.foldl (stepM c lp) (s, o) = ((gs.foldl (stepM c lp) (s, [])).1, o ++ (gs.foldl (stepM c lp) (s, [])).2)
  | [], s, o => by simp
  | g :: gs, s, o => by
    have e : ∀ o, stepM c lp (s, o) g = ((batchC c lp s g).1, o ++ (batchC c lp s g).2) := fun _ => rfl
    rw [List.foldl_cons, List.foldl_cons, e, e, steps_out c lp gs _ (o ++ _), steps_out c lp gs _ ([] ++ _)]
    simp
theorem steps_len {c : Cfg} (h : CfgFine c) (lp : Int) (n : Nat) : ∀ (gs : List (List Event)) (s : State), (∀ g ∈ gs, g.length ≤ n) → (gs.foldl (stepM c lp) (s, [])).2.length ≤ gs.length * (8 * n)
  | [], s, _ => by simp
  | g :: gs, s, hg => by
    have ih := steps_len h lp n gs (batchC c lp s g).1 (fun x hx => hg x (List.mem_cons_of_mem _ hx))
    have h1 := batchC_len h lp s g
    have h2 := hg g (by simp)
    have e : stepM c lp (s, []) g = ((batchC c lp s g).1, [] ++ (batchC c lp s g).2) := rfl
    rw [List.foldl_cons, e, steps_out, List.length_cons, Nat.add_mul, Nat.one_mul]
    simp only [List.nil_append, List.length_append]
    omega
theorem manyC_len {c : Cfg} (h : CfgFine c) (lp : Int) (s : State) (l : List Event) : (manyC c lp s l).2.length ≤ l.length * (8 * l.length) := by
  unfold manyC
  split
  · unfold manyE
    have hg : ∀ g ∈ batchesE (sortE l), g.length ≤ l.length := fun g hg => by
      have := (batches_mem _ (sortE l) (Nat.le_refl _) g hg).2.1.length_le
      rwa [sortE_len] at this
    have hn : (batchesE (sortE l)).length ≤ l.length := by
      cases hb : batchesE (sortE l) with
      | nil => exact Nat.zero_le _
      | cons g gs =>
        have := (batches_mem _ (sortE l) (Nat.le_refl _) g (by rw [hb]; simp)).2.2.2
        rw [sortE_len, hb] at this
        exact this
    exact Nat.le_trans (steps_len h lp l.length _ s hg) (Nat.mul_le_mul_right _ hn)
  · simp
end Go.Proofs.YtfiiaechippboaaDoor
/- The walks of the laws BatchRuns and BatchMany. -/
namespace Go.Proofs.YtfiiaechippboaaDoor
open Go Go.RowKit Reg Mem

theorem evsPost {l : List Event} {b : Nat} (hb : l.length ≤ b) (h : b ≤ 65536) : ∀ v1 v2 w F1 F2, (Sl true Event.cells 7 v1 l).at_ w F1 → (Sl true Event.cells 7 v2 l).at_ w F2 → Calls Tryd.prog 16 #[v1, v2] w fun r w' => r = .returned (.bool true) ∧ Below w.heap.size w w' := fun v1 v2 w F1 F2 h1 h2 => by
  have := evseq_calls v1 v2 l l w F1 F2 h1 h2 (by omega) (by omega)
  rwa [decide_eq_true rfl] at this
set_option maxRecDepth 100000 in
set_option maxHeartbeats 16000000 in
theorem batchMany_calls (vs hs : List Value) (c : Cfg) (lp : Int) (s : State) (v : Value) (l : List Event) (w : World) (F F2 F3 : Nat → Prop) (h : (CfgA true vs hs c).at_ w F) (hw : Wide c) (hwb : WideB c) (h2 : (Sl true Event.cells 7 v l).at_ w F2) (hlen : l.length ≤ 9223372036854775807) (ht : Tab.at_ w F3) :
    Calls Tryd.prog 6 #[.agg vs.toArray, .agg #[.int .i64 lp, .int .i64 s.n0, .int .i64 s.n1, .int .i64 s.n2, .int .i64 s.n3, v]] w fun r w' => r = .returned (.bool true) ∧ Below w.heap.size w w' := by
  have S : St (fun _ => False) w w [CfgA true vs hs c, Sl true Event.cells 7 v l, Tab] := (((St.init _ w).share rfl rfl ht).share (A := Sl true Event.cells 7 v l) rfl rfl h2).share rfl rfl h
  clear h h2 ht
  obtain ⟨ad, cp, rfl, _⟩ := (S.sl 1 rfl).elim fun _ h => h.form
  obtain ⟨aP, cP, aL, cL, aS, cS, rfl, _, _⟩ := S.cfg 0 rfl
  have HMd := Lib.hid fun w F F2 h ht => made_calls [.slice aP c.programs.length cP, .slice aL c.lps.length cL, .slice aS c.starts.length cS, .int .i64 c.fin, .int .i64 c.fuel, .int .i64 c.fan] hs c w F F2 h hw hwb ht
  have HTm := Lib.hid fun w F h => timely_calls (.slice ad l.length cp) l w F h hlen
  clear hw hwb
  go_enter Tryd.func6, Tryd.ntmps6
  go_wp2_with first | ((with_reducible apply wps_boxa (E := 26) S); (case hx => rfl); clear S; intro bx wz S) | ((with_reducible apply wps_boxa (E := 31) S); (case hx => rfl); clear S; intro by_ wz S) | ((with_reducible apply wps_loada (T := 26) (k := 6) S 1); (case hx | hi => rfl); (case hk => exact Nat.le_of_ble_eq_true rfl); (case hT => decide +kernel))
  refine Calls.mono (HMd.out _ _ _ (S.get (i := 2) rfl).choose_spec (S.get (i := 4) rfl).choose_spec) ?_
  clear HMd
  rintro r wz ⟨pv, vs2, hs2, rfl, (⟨hm, rfl, T⟩ | ⟨hm, R, vs3, hs3, rfl, T⟩)⟩
  · replace S := ((S.join T rfl).cfgShare 0 rfl).pick [0, 1, 2, 3, 4, 5] rfl
    repeat (first | simp only at S | simp only [pick] at S | simp only [nth] at S | simp only [List.set_cons_succ] at S | simp only [List.set_cons_zero] at S | simp only [List.setIfInBounds_toArray] at S | simp only [setAll] at S | simp only [List.cons_append] at S | simp only [List.nil_append] at S | simp only [List.append_nil] at S)
    clear T hm
    obtain ⟨aP2, cP2, aL2, cL2, aS2, cS2, rfl, _, _⟩ := S.cfg 0 rfl
    go_wp2_with first | go_skip | ((with_reducible apply wps_alloca (E := 37) S); (case hz => exact Tryd.zeroValue37); clear S; intro b6 wz S) | ((with_reducible apply wps_storea (T := 37) S 0 (vs := [.slice aP2 c.programs.length cP2, .slice aL2 c.lps.length cL2, .slice aS2 c.starts.length cS2, .int .i64 c.fin, .int .i64 c.fuel, .int .i64 c.fan]) (m := 6)); (case hx | hy | hi | hm | h1 => rfl); (case hn => exact Nat.le_of_ble_eq_true rfl); (case hT => decide +kernel); clear S; intro wz S; simp only [List.set_cons_zero, List.set_cons_succ, setAll, List.setIfInBounds_toArray] at S) | (go_at_call 11; refine Calls.mono (awake8_calls _ _ (S.get (i := 6) rfl).choose_spec) ?_; rintro e wz ⟨rfl, hE⟩; replace S := S.ext (Keep.of_below hE); clear hE)
    go_ret
    exact ⟨rfl, S.below⟩
  replace S := (((S.join T rfl).modShare 0 rfl).cfgShare 1 rfl).pick [0, 1, 2, 3, 4, 5, 6] rfl
  repeat (first | simp only at S | simp only [pick] at S | simp only [nth] at S | simp only [List.set_cons_succ] at S | simp only [List.set_cons_zero] at S | simp only [List.setIfInBounds_toArray] at S | simp only [setAll] at S | simp only [List.cons_append] at S | simp only [List.nil_append] at S | simp only [List.append_nil] at S)
  clear T
  obtain ⟨aP2, cP2, aL2, cL2, aS2, cS2, rfl, _, _⟩ := S.cfg 1 rfl
  have hfw : fewB c = true ∧ cfgE c = 0 := by unfold madeB at hm; rw [Bool.and_eq_true, decide_eq_true_eq] at hm; exact hm
  have HC := Lib.hid hfw.2
  clear hm hfw
  cases htm : timelyB l with
  | false =>
    rw [htm] at HTm
    clear htm
    go_wp2_with first | ((with_reducible apply wps_alloca (E := 37) S); (case hz => exact Tryd.zeroValue37); clear S; intro b6 wz S) | ((with_reducible apply wps_storea (T := 37) S 0 (vs := [.slice aP2 c.programs.length cP2, .slice aL2 c.lps.length cL2, .slice aS2 c.starts.length cS2, .int .i64 c.fin, .int .i64 c.fuel, .int .i64 c.fan]) (m := 6)); (case hx | hy | hi | hm | h1 => rfl); (case hn => exact Nat.le_of_ble_eq_true rfl); (case hT => decide +kernel); clear S; intro wz S; simp only [List.set_cons_zero, List.set_cons_succ, setAll, List.setIfInBounds_toArray] at S) | ((with_reducible apply wps_load S 3); (case hx | hi | hu => rfl); (case hT => decide +kernel)) | (go_at_call 10; refine Calls.mono (HTm.out _ _ (S.get (i := 6) rfl).choose_spec) ?_; rintro e wz ⟨rfl, hE⟩; replace S := S.ext (Keep.of_below hE); clear hE) | (go_at_call 11; refine Calls.mono (awake8_calls _ _ (S.get (i := 7) rfl).choose_spec) ?_; rintro e wz ⟨rfl, hE⟩; replace S := S.ext (Keep.of_below hE); clear hE)
    go_ret
    exact ⟨rfl, S.below⟩
  | true =>
  rw [htm] at HTm
  have htl : (∀ x ∈ l, 0 ≤ x.key.at_ ∧ x.key.at_ ≤ 1073741824) ∧ l.length ≤ 20 := by unfold timelyB at htm; rw [Bool.and_eq_true, decide_eq_true_eq, decide_eq_true_eq] at htm; exact htm
  clear htm
  obtain ⟨hta, htn⟩ := htl
  have Hta := Lib.hid hta
  have Htn := Lib.hid htn
  clear hta
  go_upto_region 4 with first | ((with_reducible apply wps_alloca (E := 37) S); (case hz => exact Tryd.zeroValue37); clear S; intro b6 wz S) | ((with_reducible apply wps_storea (T := 37) S 0 (vs := [.slice aP2 c.programs.length cP2, .slice aL2 c.lps.length cL2, .slice aS2 c.starts.length cS2, .int .i64 c.fin, .int .i64 c.fuel, .int .i64 c.fan]) (m := 6)); (case hx | hy | hi | hm | h1 => rfl); (case hn => exact Nat.le_of_ble_eq_true rfl); (case hT => decide +kernel); clear S; intro wz S; simp only [List.set_cons_zero, List.set_cons_succ, setAll, List.setIfInBounds_toArray] at S) | ((with_reducible apply wps_load S 3); (case hx | hi | hu => rfl); (case hT => decide +kernel)) | (go_at_call 10; refine Calls.mono (HTm.out _ _ (S.get (i := 6) rfl).choose_spec) ?_; rintro e wz ⟨rfl, hE⟩; replace S := S.ext (Keep.of_below hE); clear hE)
  clear HTm
  replace S := S.pick [0, 1, 2, 3, 6, 7] rfl
  repeat (first | simp only at S | simp only [pick] at S | simp only [nth] at S | simp only [List.set_cons_succ] at S | simp only [List.set_cons_zero] at S | simp only [List.setIfInBounds_toArray] at S | simp only [setAll] at S | simp only [List.cons_append] at S | simp only [List.nil_append] at S | simp only [List.append_nil] at S)
  have HR1 := Lib.hid fun w F F2 F3 h h2 h3 => bReplay_calls R vs3 hs3 c lp s (.slice ad l.length cp) l w F F2 F3 h h2 h3 (by omega) HC.out (fun _ => Hta.out)
  have HS1 := Lib.hid fun w F F2 F3 h h2 h3 => bSends_calls R vs3 hs3 c lp s (.slice ad l.length cp) l w F F2 F3 h h2 h3 (by omega) HC.out (fun _ => Hta.out)
  have HRM := Lib.hid fun w F F2 h h2 => (rmany_calls [.slice aP2 c.programs.length cP2, .slice aL2 c.lps.length cL2, .slice aS2 c.starts.length cS2, .int .i64 c.fin, .int .i64 c.fuel, .int .i64 c.fan] hs2 c lp s (.slice ad l.length cp) l w F F2 h h2 (by omega) HC.out (fun _ => Hta.out)).mono fun r w' h => manyU h
  have hbn := manyC_len (cfg_isfine HC.out) lp s l
  have hbn2 : (manyC c lp s l).2.length ≤ 3200 := Nat.le_trans hbn (Nat.mul_le_mul Htn.out (Nat.mul_le_mul_left 8 Htn.out))
  have HQ := Lib.hid (evsPost (l := (manyC c lp s l).2) hbn2 (by decide))
  generalize manyC c lp s l = b at *
  generalize aloneE c.lps.length lp l = e at *
  have HEQ : Hid (ceqs [.int .i64 b.1.n0, .int .i64 b.1.n1, .int .i64 b.1.n2, .int .i64 b.1.n3] [.int .i64 b.1.n0, .int .i64 b.1.n1, .int .i64 b.1.n2, .int .i64 b.1.n3] = true) := by show _ = _; simp [ceqs, ceq]
  have k2 : (e == e) = true := by simp
  clear hbn hbn2
  go_wp2_with first | ((with_reducible apply wps_load S 3); (case hx | hi | hu => rfl); (case hT => decide +kernel)) | ((with_reducible apply wps_loada (T := 28) (k := 4) S 3); (case hx | hi => rfl); (case hk => exact Nat.le_of_ble_eq_true rfl); (case hT => decide +kernel))
  refine Calls.mono (HR1.out _ _ _ _ (S.get (i := 1) rfl).choose_spec (S.get (i := 4) rfl).choose_spec (S.get (i := 5) rfl).choose_spec) ?_
  clear HR1
  rintro r wz ⟨rfl, hE⟩
  replace S := S.ext (Keep.of_below hE)
  clear hE
  go_wp2_with first | ((with_reducible apply wps_alloca (E := 28) S); (case hz => exact Tryd.zeroValue28); clear S; intro b7 wz S) | ((with_reducible apply wps_storea (T := 28) S 0 (vs := [.int .i64 b.1.n0, .int .i64 b.1.n1, .int .i64 b.1.n2, .int .i64 b.1.n3]) (m := 4)); (case hx | hy | hi | hm | h1 => rfl); (case hn => exact Nat.le_of_ble_eq_true rfl); (case hT => decide +kernel); clear S; intro wz S; simp only [List.set_cons_zero, List.set_cons_succ, setAll, List.setIfInBounds_toArray] at S) | ((with_reducible apply wps_load S 4); (case hx | hi | hu => rfl); (case hT => decide +kernel)) | ((with_reducible apply wps_loada (T := 28) (k := 4) S 4); (case hx | hi => rfl); (case hk => exact Nat.le_of_ble_eq_true rfl); (case hT => decide +kernel))
  refine Calls.mono (HS1.out _ _ _ _ (S.get (i := 2) rfl).choose_spec (S.get (i := 5) rfl).choose_spec (S.get (i := 6) rfl).choose_spec) ?_
  clear HS1
  rintro r wz ⟨v2, rfl, T⟩
  obtain ⟨ad2, cp2, rfl, _⟩ := (T.ownsl ecells 0 rfl).elim fun _ h => h.form
  replace S := S.join T rfl
  clear T
  simp only [List.cons_append, List.nil_append] at S
  go_wp2_with first | ((with_reducible apply wps_load S 5); (case hx | hi | hu => rfl); (case hT => decide +kernel)) | ((with_reducible apply wps_loada (T := 28) (k := 4) S 5); (case hx | hi => rfl); (case hk => exact Nat.le_of_ble_eq_true rfl); (case hT => decide +kernel)) | ((with_reducible apply wps_loada (T := 37) (k := 6) S 2); (case hx | hi => rfl); (case hk => exact Nat.le_of_ble_eq_true rfl); (case hT => decide +kernel))
  refine Calls.mono (HRM.out _ _ _ (S.get (i := 4) rfl).choose_spec (S.get (i := 6) rfl).choose_spec) ?_
  clear HRM
  rintro r wz ⟨v3, rfl, T⟩
  obtain ⟨ad3, cp3, rfl, _⟩ := (T.ownsl ecells 0 rfl).elim fun _ h => h.form
  replace S := S.join T rfl
  clear T
  simp only [List.cons_append, List.nil_append] at S
  go_wp2_with first | ((with_reducible apply wps_alloca (E := 28) S); (case hz => exact Tryd.zeroValue28); clear S; intro b11 wz S) | ((with_reducible apply wps_storea (T := 28) S 0 (vs := [.int .i64 b.1.n0, .int .i64 b.1.n1, .int .i64 b.1.n2, .int .i64 b.1.n3]) (m := 4)); (case hx | hy | hi | hm | h1 => rfl); (case hn => exact Nat.le_of_ble_eq_true rfl); (case hT => decide +kernel); clear S; intro wz S; simp only [List.set_cons_zero, List.set_cons_succ, setAll, List.setIfInBounds_toArray] at S) | ((with_reducible apply wps_loada (T := 28) (k := 4) S 3); (case hx | hi => rfl); (case hk => exact Nat.le_of_ble_eq_true rfl); (case hT => decide +kernel)) | ((with_reducible apply wps_loada (T := 28) (k := 4) S 0); (case hx | hi => rfl); (case hk => exact Nat.le_of_ble_eq_true rfl); (case hT => decide +kernel)) | ((with_reducible apply wpList_eql_agg (t := 28) (ks := [.int .i64, .int .i64, .int .i64, .int .i64]) (b := _)); (case hx | hy => rfl); (case hl | ha | hg => kernel_rfl); (case hfx | hfy => rfl); (case hb => exact HEQ.out)) | (go_at_call 16; refine Calls.mono (HQ.out _ _ _ _ _ (own_sl (sh := true) ecells (S.get (i := 2) rfl).choose_spec) (own_sl (sh := true) ecells (S.get (i := 1) rfl).choose_spec)) ?_; rintro e wz ⟨rfl, hE⟩; replace S := S.ext (Keep.of_below hE); clear hE) | (go_at_call 11; refine Calls.mono (awake8_calls _ _ (S.get (i := 9) rfl).choose_spec) ?_; rintro e wz ⟨rfl, hE⟩; replace S := S.ext (Keep.of_below hE); clear hE)
  go_ret
  exact ⟨rfl, S.below⟩
end Go.Proofs.YtfiiaechippboaaDoor

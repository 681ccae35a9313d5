import Derived.Test.YtfiiaechippboaaDoorR15
import Derived.Test.YtfiiaechippboaaDoorR10
import Derived.Test.YtfiiaechippboaaDoorR14
import Derived.Test.YtfiiaechippboaaDoorR05
import Derived.Deep.Cut
/- Plain: batches. No program in sight. -/
namespace Go.Proofs.YtfiiaechippboaaDoor
open Go Go.RowKit Mem

/-- Two events have one key. -/
def twiceB (l : List Event) : Bool := !decide ((l.map (·.key)).Nodup)
theorem twice_perm {l m : List Event} (h : l.Perm m) : twiceB l = twiceB m := by
  unfold twiceB; congr 1; rw [Bool.eq_iff_iff]; simpa using (h.map _).nodup_iff
theorem twice_yes {l : List Event} {i j : Nat} {x y : Event} (hx : l[i]? = some x) (hy : l[j]? = some y) (hij : i ≠ j) (hk : x.key = y.key) : twiceB l = true := by
  unfold twiceB
  rw [Bool.not_eq_true', decide_eq_false_iff_not]
  intro hn
  obtain ⟨h1, h2⟩ := List.getElem?_eq_some_iff.1 hx
  obtain ⟨g1, g2⟩ := List.getElem?_eq_some_iff.1 hy
  have e1 : (l.map (·.key))[i]? = some x.key := by simp [hx]
  have e2 : (l.map (·.key))[j]? = some x.key := by simp [hy, hk]
  obtain ⟨a1, a2⟩ := List.getElem?_eq_some_iff.1 e1
  obtain ⟨b1, b2⟩ := List.getElem?_eq_some_iff.1 e2
  exact hij ((List.getElem_inj hn).1 (a2.trans b2.symm))
theorem sortE_up (l : List Event) : (sortE l).Pairwise (fun x y => y.key.lt x.key = false) := by
  obtain ⟨ys, _, hs, e⟩ := sortE_ex l
  rw [← e, List.pairwise_map]
  refine List.Pairwise.imp (fun {x y} h => ?_) hs
  rcases h with h | h
  · exact Key.lt_asymm' h
  · exact h.1
theorem nodup_rise : ∀ {s : List Event}, s.Pairwise (fun x y => y.key.lt x.key = false) → (∀ (q : Nat) x y, s[q]? = some x → s[q + 1]? = some y → x.key ≠ y.key) → (s.map (·.key)).Nodup
  | [], _, _ => List.nodup_nil
  | [x], _, _ => by simp
  | x :: y :: s, hp, hq => by
    have ih := nodup_rise (s := y :: s) (List.pairwise_cons.1 hp).2 (fun q a b ha hb => hq (q + 1) a b (by simpa using ha) (by simpa using hb))
    rw [List.map_cons, List.nodup_cons]
    refine ⟨fun hm => ?_, ih⟩
    obtain ⟨z, hz, e⟩ := List.mem_map.1 hm
    have h1 := (List.pairwise_cons.1 hp).1 y (by simp)
    have h2 : z.key.lt y.key = false := by
      rcases List.mem_cons.1 hz with rfl | hz
      · exact Key.lt_irrefl' _
      · exact (List.pairwise_cons.1 (List.pairwise_cons.1 hp).2).1 z hz
    have h3 := hq 0 x y rfl rfl
    exact h3 (Key.eq_of (by rw [← e]; exact h2) h1)
theorem twice_no {l : List Event} (h : ∀ (q : Nat) x y, (sortE l)[q]? = some x → (sortE l)[q + 1]? = some y → x.key ≠ y.key) : twiceB l = false := by
  rw [← twice_perm (sortE_perm l)]
  unfold twiceB
  rw [Bool.not_eq_false', decide_eq_true_eq]
  exact nodup_rise (sortE_up l) h
def procE (n : Nat) (lp : Int) : Int := if lp < 0 ∨ (n : Int) ≤ lp then 10 else 0
def atE (l : List Event) : Int := match l with | [] => 0 | x :: _ => x.key.at_
/-- What is wrong with events that are to be one batch. -/
def wrongE (n : Nat) (lp : Int) (l : List Event) : Int :=
  if lp < 0 ∨ (n : Int) ≤ lp then 10 else if l.length = 0 then 14 else if ¬ (∀ x ∈ l, x.dst = lp) then 10 else if ¬ (∀ x ∈ l, x.key.at_ = atE l) then 18 else if twiceB l = true then 13 else 0
def msgE (n : Nat) (fin at_ : Int) (y : Emit) : Bool := decide (0 ≤ y.dst ∧ y.dst < n ∧ 1 ≤ y.delay ∧ y.delay ≤ 1073741824 ∧ at_ + y.delay ≤ fin)
def sendE (n : Nat) (fin lp at_ : Int) (out : List Event) (y : Emit) : List Event :=
  if msgE n fin at_ y = true then out ++ [⟨⟨at_ + y.delay, lp, at_, out.length⟩, y.dst, y.kind, y.data⟩] else out
def oneE (p : List Instr) (n : Nat) (fin fuel fan lp at_ : Int) (st : State × List Event) (x : Event) : State × List Event :=
  ((runE p st.1 x fuel fan).state, (runE p st.1 x fuel fan).sent.foldl (sendE n fin lp at_) st.2)
/-- A batch: another state, and what is sent. -/
def batchE (p : List Instr) (n : Nat) (fin fuel fan lp : Int) (s : State) (l : List Event) : State × List Event :=
  (sortE l).foldl (oneE p n fin fuel fan lp (atE l)) (s, [])
theorem send_len {n : Nat} {fin lp at_ : Int} : ∀ (em : List Emit) (out : List Event), (em.foldl (sendE n fin lp at_) out).length ≤ out.length + em.length
  | [], out => Nat.le_refl _
  | y :: em, out => by
    have h := send_len (n := n) (fin := fin) (lp := lp) (at_ := at_) em (sendE n fin lp at_ out y)
    have h2 : (sendE n fin lp at_ out y).length ≤ out.length + 1 := by unfold sendE; split <;> simp
    simp only [List.foldl_cons, List.length_cons]
    omega
theorem doE_fan {e : Event} {fan : Int} {m : Mach} {x : Instr} (h : (m.sent.length : Int) ≤ fan) : ((doE e fan m x).sent.length : Int) ≤ fan := by
  have key : ∀ {c : Prop} [Decidable c] {a b : Mach}, (c → (a.sent.length : Int) ≤ fan) → (¬ c → (b.sent.length : Int) ≤ fan) → ((if c then a else b).sent.length : Int) ≤ fan := by
    intro c _ a b ha hb
    by_cases h : c
    · rw [if_pos h]; exact ha h
    · rw [if_neg h]; exact hb h
  unfold doE
  repeat' (refine key (fun _ => ?_) (fun _ => ?_))
  all_goals first | exact h | (simp; omega)
theorem stepsE_fan {p : List Instr} {e : Event} {fan : Int} : ∀ (n : Nat) (m : Mach), (m.sent.length : Int) ≤ fan → ((stepsE p e fan n m).sent.length : Int) ≤ fan
  | 0, m, h => h
  | n + 1, m, h => by
    unfold stepsE
    cases hs : stepE p e fan m with
    | none => exact h
    | some m2 =>
      refine stepsE_fan n m2 ?_
      unfold stepE at hs
      split at hs
      · cases hs
      · split at hs
        · cases hs
        · split at hs
          · cases hs
          · cases hs; exact doE_fan h
/-- A handler sends no more than it may. -/
theorem runE_fan {p : List Instr} {s : State} {e : Event} {fuel fan : Int} (h0 : 0 ≤ fan) : ((runE p s e fuel fan).sent.length : Int) ≤ fan := stepsE_fan _ _ (by simpa [startE] using h0)
theorem ones_len {p : List Instr} {n : Nat} {fin fuel fan lp at_ : Int} (h0 : 0 ≤ fan) : ∀ (l : List Event) (st : State × List Event), ((l.foldl (oneE p n fin fuel fan lp at_) st).2.length : Int) ≤ st.2.length + fan * l.length
  | [], st => by simp
  | x :: l, st => by
    have h := ones_len (p := p) (n := n) (fin := fin) (fuel := fuel) (lp := lp) (at_ := at_) h0 l (oneE p n fin fuel fan lp at_ st x)
    have h2 : ((oneE p n fin fuel fan lp at_ st x).2.length : Int) ≤ st.2.length + fan := by
      have := send_len (n := n) (fin := fin) (lp := lp) (at_ := at_) (runE p st.1 x fuel fan).sent st.2
      have := runE_fan (p := p) (s := st.1) (e := x) (fuel := fuel) h0
      show (((runE p st.1 x fuel fan).sent.foldl (sendE n fin lp at_) st.2).length : Int) ≤ _
      omega
    rw [List.foldl_cons, List.length_cons, show ((l.length + 1 : Nat) : Int) = (l.length : Int) + 1 by omega, Int.mul_add, Int.mul_one]
    omega
end Go.Proofs.YtfiiaechippboaaDoor
/- The walks of a model's methods, at a model and at nil. -/
namespace Go.Proofs.YtfiiaechippboaaDoor
open Go Go.RowKit Reg Mem

section
variable (R : Nat) (vs hs : List Value) (c : Cfg) (w : World) (F : Nat → Prop)
set_option maxRecDepth 100000 in
theorem has_calls (lp : Int) (h : (ModA true 93 R vs hs c).at_ w F) : Calls Tryd.prog 47 #[.pointer (some ⟨R, 0, none⟩), .int .i64 lp] w fun r w' => r = .returned (.bool (decide (0 ≤ lp ∧ lp < c.lps.length))) ∧ Below w.heap.size w w' := by
  have S : St (fun _ => False) w w [ModA true 93 R vs hs c] := (St.init _ w).share rfl rfl h
  clear h
  replace S := S.modBlk 0 rfl
  obtain ⟨aP, cP, aL, cL, aS, cS, rfl, hlen, S⟩ := (S.modCfg 1 rfl).cfg 0 rfl
  replace S := S.pick [5] rfl
  simp only [pick, nth] at S
  by_cases h1 : 0 ≤ lp
  · go_enter Tryd.func47, Tryd.ntmps47
    go_wp2_with first
      | go_skip
      | ((with_reducible refine wpList_skip ?hw ?_); (case hw => with_unfolding_all rfl); simp only [Act.put, List.setIfInBounds_toArray, List.set_cons_succ, List.set_cons_zero])
      | ((with_reducible refine tot_done ?ht ?_); (case ht => kernel_rfl))
      | ((with_reducible apply wps_load S 0); (case hx => rfl); (case hi => rfl); (case hT => decide +kernel); (case hu => rfl))
    go_ret
    exact ⟨ret_bool (by simp [h1]), S.below⟩
  · go_enter Tryd.func47, Tryd.ntmps47
    go_wp2_with first
      | go_skip
      | ((with_reducible refine wpList_skip ?hw ?_); (case hw => with_unfolding_all rfl); simp only [Act.put, List.setIfInBounds_toArray, List.set_cons_succ, List.set_cons_zero])
      | ((with_reducible refine tot_done ?ht ?_); (case ht => kernel_rfl))
      | ((with_reducible apply wps_load S 0); (case hx => rfl); (case hi => rfl); (case hT => decide +kernel); (case hu => rfl))
    go_ret
    exact ⟨ret_bool (by simp; omega), S.below⟩
set_option maxRecDepth 100000 in
theorem lps_calls (h : (ModA true 93 R vs hs c).at_ w F) : Calls Tryd.prog 18 #[.pointer (some ⟨R, 0, none⟩)] w fun r w' => r = .returned (.int .i64 (c.lps.length : Int)) ∧ Below w.heap.size w w' := by
  have S : St (fun _ => False) w w [ModA true 93 R vs hs c] := (St.init _ w).share rfl rfl h
  clear h
  replace S := S.modBlk 0 rfl
  obtain ⟨aP, cP, aL, cL, aS, cS, rfl, hlen, S⟩ := (S.modCfg 1 rfl).cfg 0 rfl
  replace S := S.pick [5] rfl
  simp only [pick, nth] at S
  go_enter Tryd.func18, Tryd.ntmps18
  go_wp2_with first
    | ((with_reducible refine tot_done ?ht ?_); (case ht => kernel_rfl))
    | ((with_reducible apply wps_load S 0); (case hx => rfl); (case hi => rfl); (case hT => decide +kernel); (case hu => rfl))
  go_ret
  exact ⟨by simp, S.below⟩
set_option maxRecDepth 100000 in
theorem end_calls (h : (ModA true 93 R vs hs c).at_ w F) : Calls Tryd.prog 19 #[.pointer (some ⟨R, 0, none⟩)] w fun r w' => r = .returned (.int .i64 c.fin) ∧ Below w.heap.size w w' := by
  have S : St (fun _ => False) w w [ModA true 93 R vs hs c] := (St.init _ w).share rfl rfl h
  clear h
  replace S := S.modBlk 0 rfl
  obtain ⟨aP, cP, aL, cL, aS, cS, rfl, hlen, S⟩ := (S.modCfg 1 rfl).cfg 0 rfl
  replace S := S.pick [5] rfl
  simp only [pick, nth] at S
  go_enter Tryd.func19, Tryd.ntmps19
  go_wp2_with first
    | ((with_reducible refine tot_done ?ht ?_); (case ht => kernel_rfl))
    | ((with_reducible apply wps_load S 0); (case hx => rfl); (case hi => rfl); (case hT => decide +kernel); (case hu => rfl))
  go_ret
  exact ⟨by simp, S.below⟩
set_option maxRecDepth 100000 in
theorem fuel_calls (h : (ModA true 93 R vs hs c).at_ w F) : Calls Tryd.prog 33 #[.pointer (some ⟨R, 0, none⟩)] w fun r w' => r = .returned (.int .i64 c.fuel) ∧ Below w.heap.size w w' := by
  have S : St (fun _ => False) w w [ModA true 93 R vs hs c] := (St.init _ w).share rfl rfl h
  clear h
  replace S := S.modBlk 0 rfl
  obtain ⟨aP, cP, aL, cL, aS, cS, rfl, hlen, S⟩ := (S.modCfg 1 rfl).cfg 0 rfl
  replace S := S.pick [5] rfl
  simp only [pick, nth] at S
  go_enter Tryd.func33, Tryd.ntmps33
  go_wp2_with first
    | ((with_reducible refine tot_done ?ht ?_); (case ht => kernel_rfl))
    | ((with_reducible apply wps_load S 0); (case hx => rfl); (case hi => rfl); (case hT => decide +kernel); (case hu => rfl))
  go_ret
  exact ⟨by simp, S.below⟩
set_option maxRecDepth 100000 in
theorem fan_calls (h : (ModA true 93 R vs hs c).at_ w F) : Calls Tryd.prog 20 #[.pointer (some ⟨R, 0, none⟩)] w fun r w' => r = .returned (.int .i64 c.fan) ∧ Below w.heap.size w w' := by
  have S : St (fun _ => False) w w [ModA true 93 R vs hs c] := (St.init _ w).share rfl rfl h
  clear h
  replace S := S.modBlk 0 rfl
  obtain ⟨aP, cP, aL, cL, aS, cS, rfl, hlen, S⟩ := (S.modCfg 1 rfl).cfg 0 rfl
  replace S := S.pick [5] rfl
  simp only [pick, nth] at S
  go_enter Tryd.func20, Tryd.ntmps20
  go_wp2_with first
    | ((with_reducible refine tot_done ?ht ?_); (case ht => kernel_rfl))
    | ((with_reducible apply wps_load S 0); (case hx => rfl); (case hi => rfl); (case hT => decide +kernel); (case hu => rfl))
  go_ret
  exact ⟨by simp, S.below⟩
/-- The state of a process that is not there. -/
def state0 : List Value := [.int .i64 0, .int .i64 0, .int .i64 0, .int .i64 0]
def State.cells (s : State) : List Value := [.int .i64 s.n0, .int .i64 s.n1, .int .i64 s.n2, .int .i64 s.n3]
/-- What Clone leaves. -/
def ClonePost (p : List Instr) (w : World) (e : Ending) (w' : World) : Prop :=
  ∃ ad c, e = .returned (.slice ad p.length c) ∧ St (fun _ => False) w w' [Own 70 Instr.cells 5 (.slice ad p.length c) p]
set_option maxRecDepth 100000 in
set_option maxHeartbeats 4000000 in
theorem program_at (j k : Nat) (l : Place) (p : List Instr) (h : (ModA true 93 R vs hs c).at_ w F) (hl : c.lps[j]? = some l) (hk : l.program = k) (hp : c.programs[k]? = some p) (hn : p.length ≤ 65536) : Calls Tryd.prog 30 #[.pointer (some ⟨R, 0, none⟩), .int .i64 j] w (ClonePost p w) := by
  have S : St (fun _ => False) w w [ModA true 93 R vs hs c] := (St.init _ w).share rfl rfl h
  clear h
  have hlt := (List.getElem?_eq_some_iff.1 hl).1
  have hlt3 := (List.getElem?_eq_some_iff.1 hp).1
  have HA : Hid (∀ w F, (ModA true 93 R vs hs c).at_ w F → Calls Tryd.prog 47 #[.pointer (some ⟨R, 0, none⟩), .int .i64 (j : Int)] w fun r w' => r = .returned (.bool true) ∧ Below w.heap.size w w') := fun w F h => by
    have := has_calls R vs hs c w F j h; rwa [decide_eq_true (by omega)] at this
  replace S := S.modBlk 0 rfl
  obtain ⟨aP, cP, aL, cL, aS, cS, rfl, hlen, S⟩ := (S.modCfg 1 rfl).cfg 0 rfl
  replace S := S.pick [5, 2, 6, 0, 1] rfl
  simp only [pick, nth] at S
  obtain ⟨RL, o, rfl⟩ : ∃ R o, aL = some ⟨R, o, none⟩ := (S.sl 1 rfl).elim fun F h => h.head (by omega)
  obtain ⟨RP, oP, rfl⟩ : ∃ R o, aP = some ⟨R, o, none⟩ := (S.sl 4 rfl).elim fun F h => h.head (by omega)
  have hlt2 : (j : Int) < c.lps.length := by omega
  have hlt4 : (k : Int) < c.programs.length := by omega
  obtain ⟨v, hv⟩ : ∃ v, hs[k]? = some v := ⟨_, List.getElem?_eq_getElem (by omega)⟩
  obtain ⟨av, cv, rfl, _⟩ := (S.sls 3 rfl).elim fun F h => (h.2 k v p hv hp).form
  obtain ⟨lp, lf⟩ := l
  simp only at hk
  subst hk
  have Hl := Lib.hid hl
  have Hp := Lib.hid hp
  have Hv := Lib.hid hv
  clear hl hp hv
  go_enter Tryd.func30, Tryd.ntmps30
  go_wp2_with first
    | (go_at_call 47; refine Calls.mono (HA.out _ _ (S.get (i := 2) rfl).choose_spec) ?_; rintro e wz ⟨rfl, hE⟩; replace S := S.ext (Keep.of_below hE); clear hE)
    | ((with_reducible refine tot_done ?ht ?_); (case ht => kernel_rfl))
    | ((with_reducible apply wps_load S 0); (case hx => rfl); (case hi => rfl); (case hT => decide +kernel); (case hu => rfl))
  (refine wp_region_w (soft := [0, 1, 2, 3, 4, 5, 6, 7, 8, 9, 10, 11, 12, 13, 14, 15]) S ?hm ?hB ?_); (case hm => kernel_rfl); (case hB => decide +kernel); clear S
  iterate 16
    (with_reducible apply softs_cons)
    (case hw =>
      (with_reducible apply soft_of); (case hi => rfl)
      intro T wz S
      simp only [List.cons_append, List.nil_append] at S
      go_wp2_with first
        | ((with_reducible apply wps_load_el S 4 (hj := Hv.out) (q := 0) (u := (.slice av p.length cv))); (case hx => rfl); (case hi => rfl); (case hn => omega); (case hT => decide +kernel); (case hu => rfl))
        | ((with_reducible apply wps_load_el S 1 (hj := Hl.out) (q := 0) (u := .int .i64 (⟨k,lf⟩:Place).program)); (case hx => rfl); (case hi => rfl); (case hn => omega); (case hT => decide +kernel); (case hu => rfl))
        | ((with_reducible apply wps_load_el S 1 (hj := Hl.out) (q := 1) (u := .int .i64 (⟨k,lf⟩:Place).first.n0)); (case hx => rfl); (case hi => rfl); (case hn => omega); (case hT => decide +kernel); (case hu => rfl))
        | ((with_reducible apply wps_load_el S 1 (hj := Hl.out) (q := 2) (u := .int .i64 (⟨k,lf⟩:Place).first.n1)); (case hx => rfl); (case hi => rfl); (case hn => omega); (case hT => decide +kernel); (case hu => rfl))
        | ((with_reducible apply wps_load_el S 1 (hj := Hl.out) (q := 3) (u := .int .i64 (⟨k,lf⟩:Place).first.n2)); (case hx => rfl); (case hi => rfl); (case hn => omega); (case hT => decide +kernel); (case hu => rfl))
        | ((with_reducible apply wps_load_el S 1 (hj := Hl.out) (q := 4) (u := .int .i64 (⟨k,lf⟩:Place).first.n3)); (case hx => rfl); (case hi => rfl); (case hn => omega); (case hT => decide +kernel); (case hu => rfl))
        | ((with_reducible refine tot_done ?ht ?_); (case ht => kernel_rfl))
        | ((with_reducible apply wps_load S 0); (case hx => rfl); (case hi => rfl); (case hT => decide +kernel); (case hu => rfl))
      exact ⟨rfl, S⟩)
    (case hs => exact ⟨_, rfl, by kernel_rfl⟩)
  refine softs_nil ?_
  repeat'
    (first
      | ((with_reducible apply W_hard1 (i := 16)); (case hn => rfl); (case hr => decide +kernel))
      | ((with_reducible apply W_hard1 (i := 17)); (case hn => rfl); (case hr => decide +kernel))
      | ((with_reducible apply W_hard2 (i := 16) (i' := 17)); (case hn => rfl); (case hr => decide +kernel)))
    all_goals
      intro wz S
      (with_reducible apply hard_of); (case hi => rfl)
      simp only [List.cons_append, List.nil_append] at S
      try simp only [pick, nth] at S
      go_wp2_with first
        | (go_at_call 44; refine Calls.mono (clone_In _ _ ((S.slsEl 3 rfl Hv.out Hp.out).get (i := 0) rfl).choose_spec (by omega)) ?_; rintro e wz ⟨ad2, c2, rfl, _, T⟩; replace S := S.join T rfl; clear T; simp only [List.cons_append, List.nil_append] at S)
        | ((with_reducible refine tot_done ?ht ?_); (case ht => kernel_rfl))
        | ((with_reducible apply wps_load S 0); (case hx => rfl); (case hi => rfl); (case hT => decide +kernel); (case hu => rfl))
        | ((with_reducible apply wps_load S 1); (case hx => rfl); (case hi => rfl); (case hT => decide +kernel); (case hu => rfl))
        | ((with_reducible apply wps_load S 2); (case hx => rfl); (case hi => rfl); (case hT => decide +kernel); (case hu => rfl))
        | ((with_reducible apply wps_load S 3); (case hx => rfl); (case hi => rfl); (case hT => decide +kernel); (case hu => rfl))
        | ((with_reducible apply wps_load S 4); (case hx => rfl); (case hi => rfl); (case hT => decide +kernel); (case hu => rfl))
        | ((with_reducible apply wps_load S 5); (case hx => rfl); (case hi => rfl); (case hT => decide +kernel); (case hu => rfl))
      first
        | refine ⟨_, S.pick [1, 2, 3, 4, 5, 6, 7, 8, 9, 0] rfl, ?_⟩
        | refine ⟨_, S.pick [1, 2, 3, 4, 5, 6, 7, 8, 0] rfl, ?_⟩
        | refine ⟨_, S.pick [1, 2, 3, 4, 5, 6, 7, 0] rfl, ?_⟩
        | refine ⟨_, S.pick [1, 2, 3, 4, 5, 6, 0] rfl, ?_⟩
        | refine ⟨_, S.pick [1, 2, 3, 4, 5, 0] rfl, ?_⟩
        | refine ⟨_, S, ?_⟩
  (with_reducible apply W_done); (case hn => rfl); (case hr => decide +kernel)
  clear S
  intro wz S
  simp only [List.cons_append, List.nil_append] at S
  try simp only [pick, nth] at S
  go_wp2_with first
    | ((with_reducible refine tot_done ?ht ?_); (case ht => kernel_rfl))
    | ((with_reducible apply wps_text S); (case hm => kernel_rfl); (case hB => decide +kernel); clear S; intro wz S)
    | ((with_reducible apply wps_load S 0); (case hx => rfl); (case hi => rfl); (case hT => decide +kernel); (case hu => rfl))
  go_ret
  exact ⟨_, _, rfl, S.pick [5] rfl⟩
end
end Go.Proofs.YtfiiaechippboaaDoor
/- The walks of the reference's Word, Kinds, Number. -/
namespace Go.Proofs.YtfiiaechippboaaDoor
open Go Go.RowKit Reg Mem

def strE (s : ByteArray) : List Value := [.string s]
theorem strE_len : ∀ s, (strE s).length = 1 := fun _ => rfl
def wordsL : List ByteArray := [bytes [115, 101, 116], bytes [109, 111, 118, 101], bytes [97, 100, 100], bytes [115, 117, 98], bytes [109, 117, 108], bytes [109, 111, 100], bytes [108, 101, 115, 115], bytes [106, 117, 109, 112], bytes [122, 101, 114, 111], bytes [110, 111, 119], bytes [107, 105, 110, 100], bytes [100, 97, 116, 97], bytes [115, 101, 108, 102], bytes [115, 101, 110, 100], bytes [115, 116, 111, 112]]
def kindsL : List ByteArray := [bytes [99, 110], bytes [99, 99], bytes [99, 99, 99], bytes [99, 99, 99], bytes [99, 99, 99], bytes [99, 99, 99], bytes [99, 99, 99], bytes [112], bytes [99, 112], bytes [99], bytes [99], bytes [99], bytes [99], bytes [99, 99, 99, 107], bytes []]
set_option maxRecDepth 100000 in
theorem rword_calls (n : Nat) (s : ByteArray) (hs : wordsL[n]? = some s) (w : World) : Calls Tryd.prog 72 #[.int .i64 ((n : Int) + 1)] w fun r w' => r = .returned (.string s) ∧ Below w.heap.size w w' := by
  have S := St.init (fun _ => False) w
  have hn : n < 15 := (List.getElem?_eq_some_iff.1 hs).1
  have hn1 : (n : Int) < 15 := by omega
  have Hs := Lib.hid hs
  clear hs
  go_enter Tryd.func72, Tryd.ntmps72
  go_upto_region 4 with first
    | ((with_reducible apply wps_buildSlice (T := 149) (E := 9) (cs := #[.string (bytes [115, 101, 116]), .string (bytes [109, 111, 118, 101]), .string (bytes [97, 100, 100]), .string (bytes [115, 117, 98]), .string (bytes [109, 117, 108]), .string (bytes [109, 111, 100]), .string (bytes [108, 101, 115, 115]), .string (bytes [106, 117, 109, 112]), .string (bytes [122, 101, 114, 111]), .string (bytes [110, 111, 119]), .string (bytes [107, 105, 110, 100]), .string (bytes [100, 97, 116, 97]), .string (bytes [115, 101, 108, 102]), .string (bytes [115, 101, 110, 100]), .string (bytes [115, 116, 111, 112])]) S); (case hr => intro w; kernel_rfl); clear S; intro bz wz S)
  replace S := S.weak (i := 0) (A' := Sl true strE 1 (.slice (some ⟨bz, 0, none⟩) 15 15) wordsL) rfl (fun e => by cases e) (fun F h => ⟨F, fun _ hb => hb, blk_sl wordsL strE_len h rfl rfl⟩)
  simp only [List.set_cons_zero] at S
  go_wp2_with first
    | go_skip
    | ((with_reducible refine wpList_skip ?hw ?_); (case hw => with_unfolding_all rfl); simp only [Act.put, List.setIfInBounds_toArray, List.set_cons_succ, List.set_cons_zero])
    | ((with_reducible apply wps_load_el S 0 (hj := Hs.out) (q := 0) (u := (.string s))); (case hx => rfl); (case hi => rfl); (case hn => omega); (case hT => decide +kernel); (case hu => rfl))
    | ((with_reducible refine tot_done ?ht ?_); (case ht => kernel_rfl))
    | ((with_reducible apply wps_load S 0); (case hx => rfl); (case hi => rfl); (case hT => decide +kernel); (case hu => rfl))
  go_ret
  exact ⟨by simp, S.below⟩
set_option maxRecDepth 100000 in
theorem rword_not (op : Int) (h : ¬ (1 ≤ op ∧ op ≤ 15)) (w : World) : Calls Tryd.prog 72 #[.int .i64 op] w fun r w' => r = .returned (.string ⟨#[]⟩) ∧ Below w.heap.size w w' := by
  have S := St.init (fun _ => False) w
  by_cases h1 : op < 1
  · go_enter Tryd.func72, Tryd.ntmps72
    go_wp2_with first
      | go_skip
      | ((with_reducible refine wpList_skip ?hw ?_); (case hw => with_unfolding_all rfl); simp only [Act.put, List.setIfInBounds_toArray, List.set_cons_succ, List.set_cons_zero])
      | ((with_reducible refine tot_done ?ht ?_); (case ht => kernel_rfl))
      | ((with_reducible apply wps_load S 0); (case hx => rfl); (case hi => rfl); (case hT => decide +kernel); (case hu => rfl))
    go_ret
    exact ⟨by simp, S.below⟩
  · have h2 : 15 < op := by omega
    go_enter Tryd.func72, Tryd.ntmps72
    go_wp2_with first
      | go_skip
      | ((with_reducible refine wpList_skip ?hw ?_); (case hw => with_unfolding_all rfl); simp only [Act.put, List.setIfInBounds_toArray, List.set_cons_succ, List.set_cons_zero])
      | ((with_reducible refine tot_done ?ht ?_); (case ht => kernel_rfl))
      | ((with_reducible apply wps_load S 0); (case hx => rfl); (case hi => rfl); (case hT => decide +kernel); (case hu => rfl))
    go_ret
    exact ⟨by simp, S.below⟩
set_option maxRecDepth 100000 in
theorem rkinds_calls (n : Nat) (s : ByteArray) (hs : kindsL[n]? = some s) (w : World) : Calls Tryd.prog 73 #[.int .i64 ((n : Int) + 1)] w fun r w' => r = .returned (.string s) ∧ Below w.heap.size w w' := by
  have S := St.init (fun _ => False) w
  have hn : n < 15 := (List.getElem?_eq_some_iff.1 hs).1
  have hn1 : (n : Int) < 15 := by omega
  have Hs := Lib.hid hs
  clear hs
  go_enter Tryd.func73, Tryd.ntmps73
  go_upto_region 4 with first
    | ((with_reducible apply wps_buildSlice (T := 149) (E := 9) (cs := #[.string (bytes [99, 110]), .string (bytes [99, 99]), .string (bytes [99, 99, 99]), .string (bytes [99, 99, 99]), .string (bytes [99, 99, 99]), .string (bytes [99, 99, 99]), .string (bytes [99, 99, 99]), .string (bytes [112]), .string (bytes [99, 112]), .string (bytes [99]), .string (bytes [99]), .string (bytes [99]), .string (bytes [99]), .string (bytes [99, 99, 99, 107]), .string (bytes [])]) S); (case hr => intro w; kernel_rfl); clear S; intro bz wz S)
  replace S := S.weak (i := 0) (A' := Sl true strE 1 (.slice (some ⟨bz, 0, none⟩) 15 15) kindsL) rfl (fun e => by cases e) (fun F h => ⟨F, fun _ hb => hb, blk_sl kindsL strE_len h rfl rfl⟩)
  simp only [List.set_cons_zero] at S
  go_wp2_with first
    | go_skip
    | ((with_reducible refine wpList_skip ?hw ?_); (case hw => with_unfolding_all rfl); simp only [Act.put, List.setIfInBounds_toArray, List.set_cons_succ, List.set_cons_zero])
    | ((with_reducible apply wps_load_el S 0 (hj := Hs.out) (q := 0) (u := (.string s))); (case hx => rfl); (case hi => rfl); (case hn => omega); (case hT => decide +kernel); (case hu => rfl))
    | ((with_reducible refine tot_done ?ht ?_); (case ht => kernel_rfl))
    | ((with_reducible apply wps_load S 0); (case hx => rfl); (case hi => rfl); (case hT => decide +kernel); (case hu => rfl))
  go_ret
  exact ⟨by simp, S.below⟩
/-- The number at a place. -/
def numb (x : Instr) : Nat → Int
  | 0 => x.a
  | 1 => x.b
  | 2 => x.c
  | _ => x.d
def ask (s : State) : Nat → Int
  | 0 => s.n0
  | 1 => s.n1
  | 2 => s.n2
  | _ => s.n3
set_option maxRecDepth 100000 in
theorem rnumber_calls (x : Instr) (j : Nat) (hj : j < 4) (w : World) : Calls Tryd.prog 74 #[.agg #[.int .i64 x.op, .int .i64 x.a, .int .i64 x.b, .int .i64 x.c, .int .i64 x.d], .int .i64 j] w fun r w' => r = .returned (.int .i64 (numb x j)) ∧ Below w.heap.size w w' := by
  have S := St.init (fun _ => False) w
  obtain rfl | rfl | rfl | rfl : j = 0 ∨ j = 1 ∨ j = 2 ∨ j = 3 := by omega
  all_goals
    go_enter Tryd.func74, Tryd.ntmps74
    go_wp2_with first
      | ((with_reducible refine tot_done ?ht ?_); (case ht => kernel_rfl))
      | ((with_reducible apply wps_boxa S); (case hx => rfl); clear S; intro bz wz S)
      | ((with_reducible apply wps_box1 (v := .int _ _) S); (case hx => rfl); (case h1 => rfl); clear S; intro bz wz S)
      | ((with_reducible apply wps_box1 (v := .bool _) S); (case hx => rfl); (case h1 => rfl); clear S; intro bz wz S)
      | ((with_reducible apply wps_box1 (v := .slice _ _ _) S); (case hx => rfl); (case h1 => rfl); clear S; intro bz wz S)
      | ((with_reducible apply wps_box1 (v := .pointer _) S); (case hx => rfl); (case h1 => rfl); clear S; intro bz wz S)
      | ((with_reducible apply wps_box1 (v := .map _) S); (case hx => rfl); (case h1 => rfl); clear S; intro bz wz S)
      | ((with_reducible apply wps_box1 (v := .string _) S); (case hx => rfl); (case h1 => rfl); clear S; intro bz wz S)
      | ((with_reducible apply wps_box1 (v := .func _ _ _) S); (case hx => rfl); (case h1 => rfl); clear S; intro bz wz S)
      | ((with_reducible apply wps_load S 0); (case hx => rfl); (case hi => rfl); (case hT => decide +kernel); (case hu => rfl))
    go_ret
    exact ⟨by simp [numb], S.below⟩
end Go.Proofs.YtfiiaechippboaaDoor

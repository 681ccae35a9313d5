import Derived.Test.YtfiiaechippboaaDoorL14
import Derived.Test.YtfiiaechippboaaDoorL09
import Derived.Test.YtfiiaechippboaaDoorL13
import Derived.Test.YtfiiaechippboaaDoorL07
import Derived.Test.YtfiiaechippboaaDoorL05
import Derived.Deep.Cut
import Derived.Test.YtfiiaechippboaaDoorL11
/- Plain: batches. No program in sight. -/
namespace Go.Proofs.YtfiiaechippboaaDoor
open Go Go.RowKit Mem

/-- Two events have one key. -/
def twiceB (l : List Event) : Bool := !decide ((l.map (·.key)).Nodup)
theorem twice_perm {l m : List Event} (h : l.Perm m) : twiceB l = twiceB m := by
  unfold twiceB; congr 1; rw [Bool.eq_iff_iff]; simpa using (h.map _).nodup_iff
theorem twice_yes {l : List Event} {i j : Nat} {x y : Event} (hx : l[i]? = some x) (hy : l[j]? = some y) (hij : i ≠ j) (hk : x.key = y.key) : twiceB l = true := by
  unfold twiceB
  rw [Bool.not_eq_true', decide_eq_false_iff_not]
  intro hn
  obtain ⟨h1, h2⟩ := List.getElem?_eq_some_iff.1 hx
  obtain ⟨g1, g2⟩ := List.getElem?_eq_some_iff.1 hy
  have e1 : (l.map (·.key))[i]? = some x.key := by simp [hx]
  have e2 : (l.map (·.key))[j]? = some x.key := by simp [hy, hk]
  obtain ⟨a1, a2⟩ := List.getElem?_eq_some_iff.1 e1
  obtain ⟨b1, b2⟩ := List.getElem?_eq_some_iff.1 e2
  exact hij ((List.getElem_inj hn).1 (a2.trans b2.symm))
theorem sortE_up (l : List Event) : (sortE l).Pairwise (fun x y => y.key.lt x.key = false) := by
  obtain ⟨ys, _, hs, e⟩ := sortE_ex l
  rw [← e, List.pairwise_map]
  refine List.Pairwise.imp (fun {x y} h => ?_) hs
  rcases h with h | h
  · exact Key.lt_asymm' h
  · exact h.1
theorem nodup_rise : ∀ {s : List Event}, s.Pairwise (fun x y => y.key.lt x.key = false) → (∀ (q : Nat) x y, s[q]? = some x → s[q + 1]? = some y → x.key ≠ y.key) → (s.map (·.key)).Nodup
  | [], _, _ => List.nodup_nil
  | [x], _, _ => by simp
  | x :: y :: s, hp, hq => by
    have ih := nodup_rise (s := y :: s) (List.pairwise_cons.1 hp).2 (fun q a b ha hb => hq (q + 1) a b (by simpa using ha) (by simpa using hb))
    rw [List.map_cons, List.nodup_cons]
    refine ⟨fun hm => ?_, ih⟩
    obtain ⟨z, hz, e⟩ := List.mem_map.1 hm
    have h1 := (List.pairwise_cons.1 hp).1 y (by simp)
    have h2 : z.key.lt y.key = false := by
      rcases List.mem_cons.1 hz with rfl | hz
      · exact Key.lt_irrefl' _
      · exact (List.pairwise_cons.1 (List.pairwise_cons.1 hp).2).1 z hz
    have h3 := hq 0 x y rfl rfl
    exact h3 (Key.eq_of (by rw [← e]; exact h2) h1)
theorem twice_no {l : List Event} (h : ∀ (q : Nat) x y, (sortE l)[q]? = some x → (sortE l)[q + 1]? = some y → x.key ≠ y.key) : twiceB l = false := by
  rw [← twice_perm (sortE_perm l)]
  unfold twiceB
  rw [Bool.not_eq_false', decide_eq_true_eq]
  exact nodup_rise (sortE_up l) h
def procE (n : Nat) (lp : Int) : Int := if lp < 0 ∨ (n : Int) ≤ lp then 10 else 0
def atE (l : List Event) : Int := match l with | [] => 0 | x :: _ => x.key.at_
/-- What is wrong with events that are to be one batch. -/
def wrongE (n : Nat) (lp : Int) (l : List Event) : Int :=
  if lp < 0 ∨ (n : Int) ≤ lp then 10 else if l.length = 0 then 14 else if ¬ (∀ x ∈ l, x.dst = lp) then 10 else if ¬ (∀ x ∈ l, x.key.at_ = atE l) then 18 else if twiceB l = true then 13 else 0
def msgE (n : Nat) (fin at_ : Int) (y : Emit) : Bool := decide (0 ≤ y.dst ∧ y.dst < n ∧ 1 ≤ y.delay ∧ y.delay ≤ 1073741824 ∧ at_ + y.delay ≤ fin)
def sendE (n : Nat) (fin lp at_ : Int) (out : List Event) (y : Emit) : List Event :=
  if msgE n fin at_ y = true then out ++ [⟨⟨at_ + y.delay, lp, at_, out.length⟩, y.dst, y.kind, y.data⟩] else out
def oneE (p : List Instr) (n : Nat) (fin fuel fan lp at_ : Int) (st : State × List Event) (x : Event) : State × List Event :=
  ((runE p st.1 x fuel fan).state, (runE p st.1 x fuel fan).sent.foldl (sendE n fin lp at_) st.2)
/-- A batch: another state, and what is sent. -/
def batchE (p : List Instr) (n : Nat) (fin fuel fan lp : Int) (s : State) (l : List Event) : State × List Event :=
  (sortE l).foldl (oneE p n fin fuel fan lp (atE l)) (s, [])
theorem send_len {n : Nat} {fin lp at_ : Int} : ∀ (em : List Emit) (out : List Event), (em.foldl (sendE n fin lp at_) out).length ≤ out.length + em.length
  | [], out => Nat.le_refl _
  | y :: em, out => by
    have h := send_len (n := n) (fin := fin) (lp := lp) (at_ := at_) em (sendE n fin lp at_ out y)
    have h2 : (sendE n fin lp at_ out y).length ≤ out.length + 1 := by unfold sendE; split <;> simp
    simp only [List.foldl_cons, List.length_cons]
    omega
theorem doE_fan {e : Event} {fan : Int} {m : Mach} {x : Instr} (h : (m.sent.length : Int) ≤ fan) : ((doE e fan m x).sent.length : Int) ≤ fan := by
  have key : ∀ {c : Prop} [Decidable c] {a b : Mach}, (c → (a.sent.length : Int) ≤ fan) → (¬ c → (b.sent.length : Int) ≤ fan) → ((if c then a else b).sent.length : Int) ≤ fan := by
    intro c _ a b ha hb
    by_cases h : c
    · rw [if_pos h]; exact ha h
    · rw [if_neg h]; exact hb h
  unfold doE
  repeat' (refine key (fun _ => ?_) (fun _ => ?_))
  all_goals first | exact h | (simp; omega)
theorem stepsE_fan {p : List Instr} {e : Event} {fan : Int} : ∀ (n : Nat) (m : Mach), (m.sent.length : Int) ≤ fan → ((stepsE p e fan n m).sent.length : Int) ≤ fan
  | 0, m, h => h
  | n + 1, m, h => by
    unfold stepsE
    cases hs : stepE p e fan m with
    | none => exact h
    | some m2 =>
      refine stepsE_fan n m2 ?_
      unfold stepE at hs
      split at hs
      · cases hs
      · split at hs
        · cases hs
        · split at hs
          · cases hs
          · cases hs; exact doE_fan h
/-- A handler sends no more than it may. -/
theorem runE_fan {p : List Instr} {s : State} {e : Event} {fuel fan : Int} (h0 : 0 ≤ fan) : ((runE p s e fuel fan).sent.length : Int) ≤ fan := stepsE_fan _ _ (by simpa [startE] using h0)
theorem ones_len {p : List Instr} {n : Nat} {fin fuel fan lp at_ : Int} (h0 : 0 ≤ fan) : ∀ (l : List Event) (st : State × List Event), ((l.foldl (oneE p n fin fuel fan lp at_) st).2.length : Int) ≤ st.2.length + fan * l.length
  | [], st => by simp
  | x :: l, st => by
    have h := ones_len (p := p) (n := n) (fin := fin) (fuel := fuel) (lp := lp) (at_ := at_) h0 l (oneE p n fin fuel fan lp at_ st x)
    have h2 : ((oneE p n fin fuel fan lp at_ st x).2.length : Int) ≤ st.2.length + fan := by
      have := send_len (n := n) (fin := fin) (lp := lp) (at_ := at_) (runE p st.1 x fuel fan).sent st.2
      have := runE_fan (p := p) (s := st.1) (e := x) (fuel := fuel) h0
      show (((runE p st.1 x fuel fan).sent.foldl (sendE n fin lp at_) st.2).length : Int) ≤ _
      omega
    rw [List.foldl_cons, List.length_cons, show ((l.length + 1 : Nat) : Int) = (l.length : Int) + 1 by omega, Int.mul_add, Int.mul_one]
    omega
end Go.Proofs.YtfiiaechippboaaDoor
/- The walks of a model's methods, at a model and at nil. -/
namespace Go.Proofs.YtfiiaechippboaaDoor
open Go Go.RowKit Reg Mem

section
variable (R : Nat) (vs hs : List Value) (c : Cfg) (w : World) (F : Nat → Prop)
set_option maxRecDepth 100000 in
theorem has_calls (lp : Int) (h : (ModA true 93 R vs hs c).at_ w F) : Calls Tryd.prog 47 #[.pointer (some ⟨R, 0, none⟩), .int .i64 lp] w fun r w' => r = .returned (.bool (decide (0 ≤ lp ∧ lp < c.lps.length))) ∧ Below w.heap.size w w' := by
  have S : St (fun _ => False) w w [ModA true 93 R vs hs c] := (St.init _ w).share rfl rfl h
  clear h
  replace S := S.modBlk 0 rfl
  obtain ⟨aP, cP, aL, cL, aS, cS, rfl, hlen, S⟩ := (S.modCfg 1 rfl).cfg 0 rfl
  replace S := S.pick [5] rfl
  simp only [pick, nth] at S
  by_cases h1 : 0 ≤ lp
  · go_enter Tryd.func47, Tryd.ntmps47
    go_wp2_with first | ((with_reducible apply wps_load S 0); (case hx | hi | hu => rfl); (case hT => decide +kernel))
    go_ret
    exact ⟨ret_bool (by simp [h1]), S.below⟩
  · go_enter Tryd.func47, Tryd.ntmps47
    go_wp2_with first | ((with_reducible apply wps_load S 0); (case hx | hi | hu => rfl); (case hT => decide +kernel))
    go_ret
    exact ⟨ret_bool (by simp; omega), S.below⟩
set_option maxRecDepth 100000 in
theorem lps_calls (h : (ModA true 93 R vs hs c).at_ w F) : Calls Tryd.prog 18 #[.pointer (some ⟨R, 0, none⟩)] w fun r w' => r = .returned (.int .i64 (c.lps.length : Int)) ∧ Below w.heap.size w w' := by
  have S : St (fun _ => False) w w [ModA true 93 R vs hs c] := (St.init _ w).share rfl rfl h
  clear h
  replace S := S.modBlk 0 rfl
  obtain ⟨aP, cP, aL, cL, aS, cS, rfl, hlen, S⟩ := (S.modCfg 1 rfl).cfg 0 rfl
  replace S := S.pick [5] rfl
  simp only [pick, nth] at S
  go_enter Tryd.func18, Tryd.ntmps18
  go_wp2_with first | ((with_reducible apply wps_load S 0); (case hx | hi | hu => rfl); (case hT => decide +kernel))
  go_ret
  exact ⟨by simp, S.below⟩
set_option maxRecDepth 100000 in
theorem end_calls (h : (ModA true 93 R vs hs c).at_ w F) : Calls Tryd.prog 19 #[.pointer (some ⟨R, 0, none⟩)] w fun r w' => r = .returned (.int .i64 c.fin) ∧ Below w.heap.size w w' := by
  have S : St (fun _ => False) w w [ModA true 93 R vs hs c] := (St.init _ w).share rfl rfl h
  clear h
  replace S := S.modBlk 0 rfl
  obtain ⟨aP, cP, aL, cL, aS, cS, rfl, hlen, S⟩ := (S.modCfg 1 rfl).cfg 0 rfl
  replace S := S.pick [5] rfl
  simp only [pick, nth] at S
  go_enter Tryd.func19, Tryd.ntmps19
  go_wp2_with first | ((with_reducible apply wps_load S 0); (case hx | hi | hu => rfl); (case hT => decide +kernel))
  go_ret
  exact ⟨by simp, S.below⟩
set_option maxRecDepth 100000 in
theorem fuel_calls (h : (ModA true 93 R vs hs c).at_ w F) : Calls Tryd.prog 33 #[.pointer (some ⟨R, 0, none⟩)] w fun r w' => r = .returned (.int .i64 c.fuel) ∧ Below w.heap.size w w' := by
  have S : St (fun _ => False) w w [ModA true 93 R vs hs c] := (St.init _ w).share rfl rfl h
  clear h
  replace S := S.modBlk 0 rfl
  obtain ⟨aP, cP, aL, cL, aS, cS, rfl, hlen, S⟩ := (S.modCfg 1 rfl).cfg 0 rfl
  replace S := S.pick [5] rfl
  simp only [pick, nth] at S
  go_enter Tryd.func33, Tryd.ntmps33
  go_wp2_with first | ((with_reducible apply wps_load S 0); (case hx | hi | hu => rfl); (case hT => decide +kernel))
  go_ret
  exact ⟨by simp, S.below⟩
set_option maxRecDepth 100000 in
theorem fan_calls (h : (ModA true 93 R vs hs c).at_ w F) : Calls Tryd.prog 20 #[.pointer (some ⟨R, 0, none⟩)] w fun r w' => r = .returned (.int .i64 c.fan) ∧ Below w.heap.size w w' := by
  have S : St (fun _ => False) w w [ModA true 93 R vs hs c] := (St.init _ w).share rfl rfl h
  clear h
  replace S := S.modBlk 0 rfl
  obtain ⟨aP, cP, aL, cL, aS, cS, rfl, hlen, S⟩ := (S.modCfg 1 rfl).cfg 0 rfl
  replace S := S.pick [5] rfl
  simp only [pick, nth] at S
  go_enter Tryd.func20, Tryd.ntmps20
  go_wp2_with first | ((with_reducible apply wps_load S 0); (case hx | hi | hu => rfl); (case hT => decide +kernel))
  go_ret
  exact ⟨by simp, S.below⟩
/-- The state of a process that is not there. -/
def state0 : List Value := [.int .i64 0, .int .i64 0, .int .i64 0, .int .i64 0]
def State.cells (s : State) : List Value := [.int .i64 s.n0, .int .i64 s.n1, .int .i64 s.n2, .int .i64 s.n3]
/-- What Clone leaves. -/
def ClonePost (p : List Instr) (w : World) (e : Ending) (w' : World) : Prop :=
  ∃ ad c, e = .returned (.slice ad p.length c) ∧ St (fun _ => False) w w' [Own 70 Instr.cells 5 (.slice ad p.length c) p]
set_option maxRecDepth 100000 in
set_option maxHeartbeats 4000000 in
theorem program_at (j k : Nat) (l : Place) (p : List Instr) (h : (ModA true 93 R vs hs c).at_ w F) (hl : c.lps[j]? = some l) (hk : l.program = k) (hp : c.programs[k]? = some p) (hn : p.length ≤ 65536) : Calls Tryd.prog 30 #[.pointer (some ⟨R, 0, none⟩), .int .i64 j] w (ClonePost p w) := by
  have S : St (fun _ => False) w w [ModA true 93 R vs hs c] := (St.init _ w).share rfl rfl h
  clear h
  have hlt := (List.getElem?_eq_some_iff.1 hl).1
  have hlt3 := (List.getElem?_eq_some_iff.1 hp).1
  have HA : Hid (∀ w F, (ModA true 93 R vs hs c).at_ w F → Calls Tryd.prog 47 #[.pointer (some ⟨R, 0, none⟩), .int .i64 (j : Int)] w fun r w' => r = .returned (.bool true) ∧ Below w.heap.size w w') := fun w F h => by
    have := has_calls R vs hs c w F j h; rwa [decide_eq_true (by omega)] at this
  replace S := S.modBlk 0 rfl
  obtain ⟨aP, cP, aL, cL, aS, cS, rfl, hlen, S⟩ := (S.modCfg 1 rfl).cfg 0 rfl
  replace S := S.pick [5, 2, 6, 0, 1] rfl
  simp only [pick, nth] at S
  obtain ⟨RL, o, rfl⟩ : ∃ R o, aL = some ⟨R, o, none⟩ := (S.sl 1 rfl).elim fun F h => h.head (by omega)
  obtain ⟨RP, oP, rfl⟩ : ∃ R o, aP = some ⟨R, o, none⟩ := (S.sl 4 rfl).elim fun F h => h.head (by omega)
  have hlt2 : (j : Int) < c.lps.length := by omega
  have hlt4 : (k : Int) < c.programs.length := by omega
  obtain ⟨v, hv⟩ : ∃ v, hs[k]? = some v := ⟨_, List.getElem?_eq_getElem (by omega)⟩
  obtain ⟨av, cv, rfl, _⟩ := (S.sls 3 rfl).elim fun F h => (h.2 k v p hv hp).form
  obtain ⟨lp, lf⟩ := l
  simp only at hk
  subst hk
  have Hl := Lib.hid hl
  have Hp := Lib.hid hp
  have Hv := Lib.hid hv
  clear hl hp hv
  go_enter Tryd.func30, Tryd.ntmps30
  go_wp2_with first | (go_at_call 47; refine Calls.mono (HA.out _ _ (S.get (i := 2) rfl).choose_spec) ?_; rintro e wz ⟨rfl, hE⟩; replace S := S.ext (Keep.of_below hE); clear hE)
  (refine wp_region_w (soft := [0, 1, 2, 3, 4, 5, 6, 7, 8, 9, 10, 11, 12, 13, 14, 15]) S ?hm ?hB ?_); (case hm => kernel_rfl); (case hB => decide +kernel); clear S
  iterate 16
    (with_reducible apply softs_cons)
    (case hw =>
      (with_reducible apply soft_of); (case hi => rfl)
      intro T wz S
      simp only [List.cons_append, List.nil_append] at S
      go_wp2_with first | ((with_reducible apply wps_load_el S 4 (hj := Hv.out) (q := 0) (u := (.slice av p.length cv))); (case hx | hi => rfl); (case hn => omega); (case hu => rfl); (case hT => decide +kernel)) | ((with_reducible apply wps_load_el S 1 (hj := Hl.out) (q := 0) (u := .int .i64 (⟨k,lf⟩:Place).program)); (case hx | hi => rfl); (case hn => omega); (case hu => rfl); (case hT => decide +kernel)) | ((with_reducible refine tot_done ?ht ?_); (case ht => kernel_rfl)) | ((with_reducible apply wps_load S 0); (case hx | hi | hu => rfl); (case hT => decide +kernel))
      exact ⟨rfl, S⟩)
    (case hs => exact ⟨_, rfl, by kernel_rfl⟩)
  refine softs_nil ?_
  repeat'
    (first
      | ((with_reducible apply W_hard1 (i := 16)); (case hn => rfl); (case hr => decide +kernel)) | ((with_reducible apply W_hard1 (i := 17)); (case hn => rfl); (case hr => decide +kernel)) | ((with_reducible apply W_hard2 (i := 16) (i' := 17)); (case hn => rfl); (case hr => decide +kernel)))
    all_goals
      intro wz S
      (with_reducible apply hard_of); (case hi => rfl)
      simp only [List.cons_append, List.nil_append] at S
      try simp only [pick, nth] at S
      go_wp2_with first | (go_at_call 44; refine Calls.mono (clone_In _ _ ((S.slsEl 3 rfl Hv.out Hp.out).get (i := 0) rfl).choose_spec (by omega)) ?_; rintro e wz ⟨ad2, c2, rfl, _, T⟩; replace S := S.join T rfl; clear T; simp only [List.cons_append, List.nil_append] at S) | ((with_reducible refine tot_done ?ht ?_); (case ht => kernel_rfl))
      first
        | refine ⟨_, S.pick [1, 2, 3, 4, 5, 6, 7, 8, 9, 0] rfl, ?_⟩
        | refine ⟨_, S.pick [1, 2, 3, 4, 5, 6, 7, 8, 0] rfl, ?_⟩
        | refine ⟨_, S.pick [1, 2, 3, 4, 5, 6, 7, 0] rfl, ?_⟩
        | refine ⟨_, S.pick [1, 2, 3, 4, 5, 6, 0] rfl, ?_⟩
        | refine ⟨_, S.pick [1, 2, 3, 4, 5, 0] rfl, ?_⟩
        | refine ⟨_, S, ?_⟩
  (with_reducible apply W_done); (case hn => rfl); (case hr => decide +kernel)
  clear S
  intro wz S
  simp only [List.cons_append, List.nil_append] at S
  try simp only [pick, nth] at S
  go_wp2_with first | ((with_reducible apply wps_load S 0); (case hx | hi | hu => rfl); (case hT => decide +kernel))
  go_ret
  exact ⟨_, _, rfl, S.pick [5] rfl⟩
end
end Go.Proofs.YtfiiaechippboaaDoor
/- Plain: the reference's machine: its cells. No program in sight. -/
namespace Go.Proofs.YtfiiaechippboaaDoor
open Go Go.RowKit Mem

/-- The cells of the reference's machine: its program, the event, Fan, the eight numbers, the place, what is sent. -/
def rmCells (e : Event) (vp : Value) (m : Mach) (fan : Int) (vs : Value) : Array Value :=
  (vp :: (e.cells ++ .int .i64 fan :: (m.cs.map (Value.int .i64) ++ [.int .i64 m.at_, vs]))).toArray
section
variable {e : Event} {vp vs u : Value} {m : Mach} {fan : Int}
theorem rm_prog : (rmCells e vp m fan vs)[0]? = some vp := by simp [rmCells]
theorem rm_ev {q : Nat} (hq : q < 7) (hu : e.cells[q]? = some u) : (rmCells e vp m fan vs)[q + 1]? = some u := by
  unfold rmCells
  simp only [List.getElem?_toArray, List.getElem?_cons_succ]
  rw [List.getElem?_append_left (by simpa [Event.cells] using hq)]; exact hu
theorem rm_fan : (rmCells e vp m fan vs)[8]? = some (.int .i64 fan) := by simp [rmCells, Event.cells]
theorem rm_cell (h8 : m.cs.length = 8) {a : Nat} (ha : a < 8) : (rmCells e vp m fan vs)[9 + a]? = some (.int .i64 (m.get a)) := by
  unfold rmCells Mach.get
  simp only [List.getElem?_toArray]
  rw [show 9 + a = (8 + a) + 1 by omega, List.getElem?_cons_succ, List.getElem?_append_right (by simp [Event.cells]; omega), show 8 + a - e.cells.length = a + 1 by simp [Event.cells]; omega, List.getElem?_cons_succ, List.getElem?_append_left (by simp [h8]; exact ha), List.getElem?_map]
  have : m.cs[a]? = some m.cs[a] := List.getElem?_eq_getElem (by omega)
  simp [this]
theorem rm_at (h8 : m.cs.length = 8) : (rmCells e vp m fan vs)[17]? = some (.int .i64 m.at_) := by
  unfold rmCells
  simp only [List.getElem?_toArray]
  rw [show (17 : Nat) = 16 + 1 by rfl, List.getElem?_cons_succ, List.getElem?_append_right (by simp [Event.cells]), show 16 - e.cells.length = 8 + 1 by simp [Event.cells], List.getElem?_cons_succ, List.getElem?_append_right (by simp [h8])]
  simp [h8]
theorem rm_sent (h8 : m.cs.length = 8) : (rmCells e vp m fan vs)[18]? = some vs := by
  unfold rmCells
  simp only [List.getElem?_toArray]
  rw [show (18 : Nat) = 17 + 1 by rfl, List.getElem?_cons_succ, List.getElem?_append_right (by simp [Event.cells]), show 17 - e.cells.length = 9 + 1 by simp [Event.cells], List.getElem?_cons_succ, List.getElem?_append_right (by simp [h8])]
  simp [h8]
theorem rm_size (h8 : m.cs.length = 8) : (rmCells e vp m fan vs).size = 19 := by simp [rmCells, Event.cells, h8]
theorem rm_put (h8 : m.cs.length = 8) {a : Nat} (ha : a < 8) (v : Int) : (rmCells e vp m fan vs).setIfInBounds (9 + a) (.int .i64 v) = rmCells e vp (m.put a v) fan vs := by
  unfold rmCells Mach.put
  rw [List.setIfInBounds_toArray]
  congr 1
  rw [show 9 + a = (8 + a) + 1 by omega, List.set_cons_succ, List.set_append_right _ _ (by simp [Event.cells]; omega), show 8 + a - e.cells.length = a + 1 by simp [Event.cells]; omega, List.set_cons_succ, List.set_append_left _ _ (by simp [h8]; exact ha), List.map_set]
  simp
theorem rm_setat (h8 : m.cs.length = 8) (v : Int) : (rmCells e vp m fan vs).setIfInBounds 17 (.int .i64 v) = rmCells e vp { m with at_ := v } fan vs := by
  unfold rmCells
  rw [List.setIfInBounds_toArray]
  congr 1
  rw [show (17 : Nat) = 16 + 1 by rfl, List.set_cons_succ, List.set_append_right _ _ (by simp [Event.cells]), show 16 - e.cells.length = 8 + 1 by simp [Event.cells], List.set_cons_succ, List.set_append_right _ _ (by simp [h8])]
  simp [h8]
theorem rm_setsent (h8 : m.cs.length = 8) (v : Value) (l : List Emit) : (rmCells e vp m fan vs).setIfInBounds 18 v = rmCells e vp { m with sent := l } fan v := by
  unfold rmCells
  rw [List.setIfInBounds_toArray]
  congr 1
  rw [show (18 : Nat) = 17 + 1 by rfl, List.set_cons_succ, List.set_append_right _ _ (by simp [Event.cells]), show 17 - e.cells.length = 9 + 1 by simp [Event.cells], List.set_cons_succ, List.set_append_right _ _ (by simp [h8])]
  simp [h8]
end
end Go.Proofs.YtfiiaechippboaaDoor
/- The walks of the reference's Word, Kinds, Number. -/
namespace Go.Proofs.YtfiiaechippboaaDoor
open Go Go.RowKit Reg Mem

def strE (s : ByteArray) : List Value := [.string s]
theorem strE_len : ∀ s, (strE s).length = 1 := fun _ => rfl
def wordsL : List ByteArray := [bytes [115, 101, 116], bytes [109, 111, 118, 101], bytes [97, 100, 100], bytes [115, 117, 98], bytes [109, 117, 108], bytes [109, 111, 100], bytes [108, 101, 115, 115], bytes [106, 117, 109, 112], bytes [122, 101, 114, 111], bytes [110, 111, 119], bytes [107, 105, 110, 100], bytes [100, 97, 116, 97], bytes [115, 101, 108, 102], bytes [115, 101, 110, 100], bytes [115, 116, 111, 112]]
def kindsL : List ByteArray := [bytes [99, 110], bytes [99, 99], bytes [99, 99, 99], bytes [99, 99, 99], bytes [99, 99, 99], bytes [99, 99, 99], bytes [99, 99, 99], bytes [112], bytes [99, 112], bytes [99], bytes [99], bytes [99], bytes [99], bytes [99, 99, 99, 107], bytes []]
set_option maxRecDepth 100000 in
theorem rword_calls (n : Nat) (s : ByteArray) (hs : wordsL[n]? = some s) (w : World) : Calls Tryd.prog 72 #[.int .i64 ((n : Int) + 1)] w fun r w' => r = .returned (.string s) ∧ Below w.heap.size w w' := by
  have S := St.init (fun _ => False) w
  have hn : n < 15 := (List.getElem?_eq_some_iff.1 hs).1
  have hn1 : (n : Int) < 15 := by omega
  have Hs := Lib.hid hs
  clear hs
  go_enter Tryd.func72, Tryd.ntmps72
  go_upto_region 4 with first | ((with_reducible apply wps_buildSlice (T := 149) (E := 9) (cs := #[.string (bytes [115, 101, 116]), .string (bytes [109, 111, 118, 101]), .string (bytes [97, 100, 100]), .string (bytes [115, 117, 98]), .string (bytes [109, 117, 108]), .string (bytes [109, 111, 100]), .string (bytes [108, 101, 115, 115]), .string (bytes [106, 117, 109, 112]), .string (bytes [122, 101, 114, 111]), .string (bytes [110, 111, 119]), .string (bytes [107, 105, 110, 100]), .string (bytes [100, 97, 116, 97]), .string (bytes [115, 101, 108, 102]), .string (bytes [115, 101, 110, 100]), .string (bytes [115, 116, 111, 112])]) S); (case hr => intro w; kernel_rfl); clear S; intro bz wz S)
  replace S := S.weak (i := 0) (A' := Sl true strE 1 (.slice (some ⟨bz, 0, none⟩) 15 15) wordsL) rfl (fun e => by cases e) (fun F h => ⟨F, fun _ hb => hb, blk_sl wordsL strE_len h rfl rfl⟩)
  simp only [List.set_cons_zero] at S
  go_wp2_with first | ((with_reducible apply wps_load_el S 0 (hj := Hs.out) (q := 0) (u := (.string s))); (case hx | hi => rfl); (case hn => omega); (case hu => rfl); (case hT => decide +kernel))
  go_ret
  exact ⟨by simp, S.below⟩
set_option maxRecDepth 100000 in
theorem rword_not (op : Int) (h : ¬ (1 ≤ op ∧ op ≤ 15)) (w : World) : Calls Tryd.prog 72 #[.int .i64 op] w fun r w' => r = .returned (.string ⟨#[]⟩) ∧ Below w.heap.size w w' := by
  have S := St.init (fun _ => False) w
  by_cases h1 : op < 1
  · go_enter Tryd.func72, Tryd.ntmps72
    go_wp2_with first | ((with_reducible apply wps_load S 0); (case hx | hi | hu => rfl); (case hT => decide +kernel))
    go_ret
    exact ⟨by simp, S.below⟩
  · have h2 : 15 < op := by omega
    go_enter Tryd.func72, Tryd.ntmps72
    go_wp2_with first | ((with_reducible apply wps_load S 0); (case hx | hi | hu => rfl); (case hT => decide +kernel))
    go_ret
    exact ⟨by simp, S.below⟩
set_option maxRecDepth 100000 in
theorem rkinds_calls (n : Nat) (s : ByteArray) (hs : kindsL[n]? = some s) (w : World) : Calls Tryd.prog 73 #[.int .i64 ((n : Int) + 1)] w fun r w' => r = .returned (.string s) ∧ Below w.heap.size w w' := by
  have S := St.init (fun _ => False) w
  have hn : n < 15 := (List.getElem?_eq_some_iff.1 hs).1
  have hn1 : (n : Int) < 15 := by omega
  have Hs := Lib.hid hs
  clear hs
  go_enter Tryd.func73, Tryd.ntmps73
  go_upto_region 4 with first | ((with_reducible apply wps_buildSlice (T := 149) (E := 9) (cs := #[.string (bytes [99, 110]), .string (bytes [99, 99]), .string (bytes [99, 99, 99]), .string (bytes [99, 99, 99]), .string (bytes [99, 99, 99]), .string (bytes [99, 99, 99]), .string (bytes [99, 99, 99]), .string (bytes [112]), .string (bytes [99, 112]), .string (bytes [99]), .string (bytes [99]), .string (bytes [99]), .string (bytes [99]), .string (bytes [99, 99, 99, 107]), .string (bytes [])]) S); (case hr => intro w; kernel_rfl); clear S; intro bz wz S)
  replace S := S.weak (i := 0) (A' := Sl true strE 1 (.slice (some ⟨bz, 0, none⟩) 15 15) kindsL) rfl (fun e => by cases e) (fun F h => ⟨F, fun _ hb => hb, blk_sl kindsL strE_len h rfl rfl⟩)
  simp only [List.set_cons_zero] at S
  go_wp2_with first | ((with_reducible apply wps_load_el S 0 (hj := Hs.out) (q := 0) (u := (.string s))); (case hx | hi => rfl); (case hn => omega); (case hu => rfl); (case hT => decide +kernel))
  go_ret
  exact ⟨by simp, S.below⟩
/-- The number at a place. -/
def numb (x : Instr) : Nat → Int
  | 0 => x.a
  | 1 => x.b
  | 2 => x.c
  | _ => x.d
def ask (s : State) : Nat → Int
  | 0 => s.n0
  | 1 => s.n1
  | 2 => s.n2
  | _ => s.n3
set_option maxRecDepth 100000 in
theorem rnumber_calls (x : Instr) (j : Nat) (hj : j < 4) (w : World) : Calls Tryd.prog 74 #[.agg #[.int .i64 x.op, .int .i64 x.a, .int .i64 x.b, .int .i64 x.c, .int .i64 x.d], .int .i64 j] w fun r w' => r = .returned (.int .i64 (numb x j)) ∧ Below w.heap.size w w' := by
  have S := St.init (fun _ => False) w
  obtain rfl | rfl | rfl | rfl : j = 0 ∨ j = 1 ∨ j = 2 ∨ j = 3 := by omega
  all_goals
    go_enter Tryd.func74, Tryd.ntmps74
    go_wp2_with first | ((with_reducible apply wps_boxa S); (case hx => rfl); clear S; intro bz wz S) | ((with_reducible apply wps_load S 0); (case hx | hi | hu => rfl); (case hT => decide +kernel))
    go_ret
    exact ⟨by simp [numb], S.below⟩
end Go.Proofs.YtfiiaechippboaaDoor
/- The walks of the reference's May and Check (of programs). -/
namespace Go.Proofs.YtfiiaechippboaaDoor.Mem
open Go Go.RowKit Reg
section
variable {P : Program} {ops : Array Oper} {rest : List Oper} {a : Act} {Q : Exit → Act → World → Prop} {d : Option Tmp} {tt : TypeId} {p : String} {af : Array Edge} {gd : Option (Nat × Bool)} {x y : Operand} {w : World}
end
end Go.Proofs.YtfiiaechippboaaDoor.Mem
namespace Go.Proofs.YtfiiaechippboaaDoor
open Go Go.RowKit Reg Mem

def kOk (n j : Nat) : Bool := match kindsL[n]?, table[n + 1]? with
  | some ks, some t => (match ks[j]? with
    | some b => (b == 99 && ask t.num j == 1) || (b == 110 && ask t.num j == 2) || (b == 112 && ask t.num j == 3) || (b == 107 && ask t.num j == 4)
    | none => ask t.num j == 0 && decide (ks.size ≤ j))
  | _, _ => false
theorem kOk_all : ∀ n : Fin 15, ∀ j : Fin 4, kOk n.1 j.1 = true := by decide +kernel
theorem kinds_ask {n j : Nat} {ks : ByteArray} {t : About} (hj : j < 4) (hk : kindsL[n]? = some ks) (ht : table[n + 1]? = some t) :
    (ks[j]? = some 99 ∧ ask t.num j = 1) ∨ (ks[j]? = some 110 ∧ ask t.num j = 2) ∨ (ks[j]? = some 112 ∧ ask t.num j = 3) ∨ (ks[j]? = some 107 ∧ ask t.num j = 4) ∨ (ks.size ≤ j ∧ ask t.num j = 0) := by
  have hn : n < 15 := (List.getElem?_eq_some_iff.1 hk).1
  have h := kOk_all ⟨n, hn⟩ ⟨j, hj⟩
  unfold kOk at h
  simp only [hk, ht] at h
  cases hb : ks[j]? with
  | none => rw [hb] at h; simp at h; exact .inr (.inr (.inr (.inr ⟨h.2, h.1⟩)))
  | some b =>
    rw [hb] at h
    simp only [Bool.or_eq_true, Bool.and_eq_true, beq_iff_eq] at h
    rcases h with ((⟨rfl, h⟩ | ⟨rfl, h⟩) | ⟨rfl, h⟩) | ⟨rfl, h⟩
    · exact .inl ⟨rfl, h⟩
    · exact .inr (.inl ⟨rfl, h⟩)
    · exact .inr (.inr (.inl ⟨rfl, h⟩))
    · exact .inr (.inr (.inr (.inl ⟨rfl, h⟩)))
theorem words_all : ∀ s ∈ wordsL, s.toList.isEmpty = false := by decide +kernel
theorem may_all {x : Instr} {many : Int} {t : About} {n : Nat} (hop : x.op = (n : Int) + 1) (ht : table[n + 1]? = some t) (h : ∀ q : Nat, q < 4 → fitsN (ask t.num q) (numb x q) many = true) : mayE x many = 0 := by
  have hn : n + 1 < 16 := by rw [← table_len]; exact (List.getElem?_eq_some_iff.1 ht).1
  have h1 : isOp x.op = true := by simp [isOp]; omega
  rw [may_eq (t := t) h1 (by rw [hop]; exact ht)]
  have h0 := h 0 (by omega); have h1 := h 1 (by omega); have h2 := h 2 (by omega); have h3 := h 3 (by omega)
  simp only [ask, numb] at h0 h1 h2 h3
  rw [h0, h1, h2, h3]; rfl
theorem may_bad {x : Instr} {many : Int} {t : About} {n j : Nat} (hop : x.op = (n : Int) + 1) (ht : table[n + 1]? = some t) (hj : j < 4) (h : fitsN (ask t.num j) (numb x j) many = false) : mayE x many = 10 := by
  have hn : n + 1 < 16 := by rw [← table_len]; exact (List.getElem?_eq_some_iff.1 ht).1
  have h1 : isOp x.op = true := by simp [isOp]; omega
  rw [may_eq (t := t) h1 (by rw [hop]; exact ht), if_neg]
  intro hh
  simp only [Bool.and_eq_true] at hh
  obtain rfl | rfl | rfl | rfl : j = 0 ∨ j = 1 ∨ j = 2 ∨ j = 3 := by omega
  · rw [show ask t.num 0 = t.num.n0 from rfl, show numb x 0 = x.a from rfl, hh.1.1.1] at h; cases h
  · rw [show ask t.num 1 = t.num.n1 from rfl, show numb x 1 = x.b from rfl, hh.1.1.2] at h; cases h
  · rw [show ask t.num 2 = t.num.n2 from rfl, show numb x 2 = x.c from rfl, hh.1.2] at h; cases h
  · rw [show ask t.num 3 = t.num.n3 from rfl, show numb x 3 = x.d from rfl, hh.2] at h; cases h
def RMayRel (x : Instr) (t : About) (many : Int) (n : Int) (bx : Nat) (w : World) (i : Value) (wr : World) : Prop :=
  ∃ j : Nat, j ≤ 4 ∧ i = .int .i64 j ∧ Hid (∀ q : Nat, q < j → fitsN (ask t.num q) (numb x q) many = true) ∧ St (fun _ => False) w wr [Blk false bx #[.int .i64 (n + 1), .int .i64 x.a, .int .i64 x.b, .int .i64 x.c, .int .i64 x.d] 123]
theorem fits_snoc {x : Instr} {t : About} {many : Int} {j : Nat} (h : ∀ q : Nat, q < j → fitsN (ask t.num q) (numb x q) many = true) (hj : fitsN (ask t.num j) (numb x j) many = true) : ∀ q : Nat, q < j + 1 → fitsN (ask t.num q) (numb x q) many = true := fun q hq => by
  by_cases e : q = j
  · subst e; exact hj
  · exact h q (by omega)
set_option maxRecDepth 100000 in
set_option maxHeartbeats 8000000 in
theorem rmay_calls (x : Instr) (many : Int) (w : World) : Calls Tryd.prog 59 #[.agg #[.int .i64 x.op, .int .i64 x.a, .int .i64 x.b, .int .i64 x.c, .int .i64 x.d], .int .i64 many] w fun r w' => r = .returned (.int .i64 (mayE x many)) ∧ Below w.heap.size w w' := by
  have S := St.init (fun _ => False) w
  by_cases h1 : 1 ≤ x.op ∧ x.op ≤ 15
  · obtain ⟨n, hop⟩ : ∃ n : Nat, x.op = (n : Int) + 1 := ⟨(x.op - 1).toNat, by omega⟩
    have hn : n < 15 := by omega
    obtain ⟨s, hs⟩ : ∃ s, wordsL[n]? = some s := ⟨_, List.getElem?_eq_getElem hn⟩
    obtain ⟨ks, hk⟩ : ∃ s, kindsL[n]? = some s := ⟨_, List.getElem?_eq_getElem hn⟩
    obtain ⟨t, ht⟩ : ∃ t, table[n + 1]? = some t := ⟨_, List.getElem?_eq_getElem (by rw [table_len]; omega)⟩
    have hs0 : s.toList.isEmpty = false := words_all s (List.mem_of_getElem? hs)
    have HNu : Hid (∀ (j : Nat), j < 4 → ∀ w, Calls Tryd.prog 74 #[.agg #[.int .i64 ((n : Int) + 1), .int .i64 x.a, .int .i64 x.b, .int .i64 x.c, .int .i64 x.d], .int .i64 j] w fun r w' => r = .returned (.int .i64 (numb x j)) ∧ Below w.heap.size w w') := fun j hj w => by
      have := rnumber_calls x j hj w; rwa [hop] at this
    have HKA : Hid (∀ j : Nat, j < 4 → (ks[j]? = some 99 ∧ ask t.num j = 1) ∨ (ks[j]? = some 110 ∧ ask t.num j = 2) ∨ (ks[j]? = some 112 ∧ ask t.num j = 3) ∨ (ks[j]? = some 107 ∧ ask t.num j = 4) ∨ (ks.size ≤ j ∧ ask t.num j = 0)) := fun j hj => kinds_ask hj hk ht
    have HOK : Hid ((∀ q : Nat, q < 4 → fitsN (ask t.num q) (numb x q) many = true) → mayE x many = 0) := fun h => may_all hop ht h
    have HBD : Hid (∀ j : Nat, j < 4 → fitsN (ask t.num j) (numb x j) many = false → mayE x many = 10) := fun j hj h => may_bad hop ht hj h
    rw [hop]
    have Hs := Lib.hid hs
    have Hk := Lib.hid hk
    have Ht := Lib.hid ht
    clear hs hk ht
    clear h1 hop
    go_enter Tryd.func59, Tryd.ntmps59
    go_wp2_with first | ((with_reducible apply wps_boxa S); (case hx => rfl); clear S; intro bx wz S) | (go_at_call 72; refine Calls.mono (rword_calls n s Hs.out _) ?_; rintro e wz ⟨rfl, hE⟩; replace S := S.ext (Keep.of_below hE); clear hE) | (go_at_call 73; refine Calls.mono (rkinds_calls n ks Hk.out _) ?_; rintro e wz ⟨rfl, hE⟩; replace S := S.ext (Keep.of_below hE); clear hE) | ((with_reducible apply wps_load S 0); (case hx | hi | hu => rfl); (case hT => decide +kernel))
    go_loopw [6] (fun i wr => RMayRel x t many n bx w i wr) (fun i _ => 4 - (intOf i).toNat)
    case atStart => exact ⟨0, by omega, rfl, fun q h => by omega, S⟩
    case round =>
      clear S
      obtain ⟨j, hj, rfl, Hf, S⟩ := hrel
      by_cases hlt : j < 4
      · have hlt2 : (j : Int) < 4 := by omega
        have HN1 := Lib.hid (HNu.out j hlt)
        have HB1 := Lib.hid (HBD.out j hlt)
        have hka := HKA.out j hlt
        generalize hv : numb x j = v at *
        rcases hka with ⟨hb, ha⟩ | ⟨hb, ha⟩ | ⟨hb, ha⟩ | ⟨hb, ha⟩ | ⟨hb, ha⟩
        · skip
          have hjs : j < ks.size := by
            rcases Nat.lt_or_ge j ks.size with h | h
            · exact h
            · rw [ByteArray.getElem?_ge' ks _ (by omega)] at hb; cases hb
          have hjs2 : (j : Int) < ks.size := by omega
          have hbt : ((ks[j]'hjs).toNat : Int) = 99 := by
            have h2 := ByteArray.getElem?_lt' ks j hjs
            rw [h2] at hb
            rw [Option.some.inj hb]; rfl
          clear hb
          by_cases g81 : v < 0
          · skip
            have hfit := (show fitsN (ask t.num j) v many = false by rw [ha]; simp [fitsN]; try omega)
            have Hfit := Lib.hid hfit
            have Hv := Lib.hid hv
            clear hfit hv
            go_wp2_with first | (go_at_call 74; refine Calls.mono (HN1.out _) ?_; rintro e wz ⟨rfl, hE⟩; replace S := S.ext (Keep.of_below hE); clear hE) | ((with_reducible apply wps_loada (T := 123) (k := 5) S 0); (case hx | hi => rfl); (case hk => exact Nat.le_of_ble_eq_true rfl); (case hT => decide +kernel))
            go_ret
            exact ⟨ret_int (HB1.out Hfit.out).symm, S.below⟩
          by_cases g53 : 7 < v
          · skip
            have hfit := (show fitsN (ask t.num j) v many = false by rw [ha]; simp [fitsN]; try omega)
            have Hfit := Lib.hid hfit
            have Hv := Lib.hid hv
            clear hfit hv
            go_wp2_with first | (go_at_call 74; refine Calls.mono (HN1.out _) ?_; rintro e wz ⟨rfl, hE⟩; replace S := S.ext (Keep.of_below hE); clear hE) | ((with_reducible apply wps_loada (T := 123) (k := 5) S 0); (case hx | hi => rfl); (case hk => exact Nat.le_of_ble_eq_true rfl); (case hT => decide +kernel))
            go_ret
            exact ⟨ret_int (HB1.out Hfit.out).symm, S.below⟩
          have hfit := (show fitsN (ask t.num j) v many = true by rw [ha]; simp [fitsN]; try omega)
          have Hfit := Lib.hid hfit
          have Hv := Lib.hid hv
          clear hfit hv
          go_wp2_with first | (go_at_call 74; refine Calls.mono (HN1.out _) ?_; rintro e wz ⟨rfl, hE⟩; replace S := S.ext (Keep.of_below hE); clear hE) | ((with_reducible apply wps_loada (T := 123) (k := 5) S 0); (case hx | hi => rfl); (case hk => exact Nat.le_of_ble_eq_true rfl); (case hT => decide +kernel))
          go_roundw
          case rel => exact ⟨j + 1, by omega, by go_num, fits_snoc Hf.out (by rw [Hv.out]; exact Hfit.out), S⟩
          case measure => first | (simp [intOf]; done) | (simp [intOf]; omega)
        · skip
          have hjs : j < ks.size := by
            rcases Nat.lt_or_ge j ks.size with h | h
            · exact h
            · rw [ByteArray.getElem?_ge' ks _ (by omega)] at hb; cases hb
          have hjs2 : (j : Int) < ks.size := by omega
          have hbt : ((ks[j]'hjs).toNat : Int) = 110 := by
            have h2 := ByteArray.getElem?_lt' ks j hjs
            rw [h2] at hb
            rw [Option.some.inj hb]; rfl
          clear hb
          have hfit := (show fitsN (ask t.num j) v many = true by rw [ha]; simp [fitsN]; try omega)
          have Hfit := Lib.hid hfit
          have Hv := Lib.hid hv
          clear hfit hv
          go_wp2_with first | (go_at_call 74; refine Calls.mono (HN1.out _) ?_; rintro e wz ⟨rfl, hE⟩; replace S := S.ext (Keep.of_below hE); clear hE) | ((with_reducible apply wps_loada (T := 123) (k := 5) S 0); (case hx | hi => rfl); (case hk => exact Nat.le_of_ble_eq_true rfl); (case hT => decide +kernel))
          go_roundw
          case rel => exact ⟨j + 1, by omega, by go_num, fits_snoc Hf.out (by rw [Hv.out]; exact Hfit.out), S⟩
          case measure => first | (simp [intOf]; done) | (simp [intOf]; omega)
        · skip
          have hjs : j < ks.size := by
            rcases Nat.lt_or_ge j ks.size with h | h
            · exact h
            · rw [ByteArray.getElem?_ge' ks _ (by omega)] at hb; cases hb
          have hjs2 : (j : Int) < ks.size := by omega
          have hbt : ((ks[j]'hjs).toNat : Int) = 112 := by
            have h2 := ByteArray.getElem?_lt' ks j hjs
            rw [h2] at hb
            rw [Option.some.inj hb]; rfl
          clear hb
          by_cases g81 : v < 0
          · skip
            have hfit := (show fitsN (ask t.num j) v many = false by rw [ha]; simp [fitsN]; try omega)
            have Hfit := Lib.hid hfit
            have Hv := Lib.hid hv
            clear hfit hv
            go_wp2_with first | (go_at_call 74; refine Calls.mono (HN1.out _) ?_; rintro e wz ⟨rfl, hE⟩; replace S := S.ext (Keep.of_below hE); clear hE) | ((with_reducible apply wps_loada (T := 123) (k := 5) S 0); (case hx | hi => rfl); (case hk => exact Nat.le_of_ble_eq_true rfl); (case hT => decide +kernel))
            go_ret
            exact ⟨ret_int (HB1.out Hfit.out).symm, S.below⟩
          by_cases g54 : many < v
          · skip
            have hfit := (show fitsN (ask t.num j) v many = false by rw [ha]; simp [fitsN]; try omega)
            have Hfit := Lib.hid hfit
            have Hv := Lib.hid hv
            clear hfit hv
            go_wp2_with first | (go_at_call 74; refine Calls.mono (HN1.out _) ?_; rintro e wz ⟨rfl, hE⟩; replace S := S.ext (Keep.of_below hE); clear hE) | ((with_reducible apply wps_loada (T := 123) (k := 5) S 0); (case hx | hi => rfl); (case hk => exact Nat.le_of_ble_eq_true rfl); (case hT => decide +kernel))
            go_ret
            exact ⟨ret_int (HB1.out Hfit.out).symm, S.below⟩
          have hfit := (show fitsN (ask t.num j) v many = true by rw [ha]; simp [fitsN]; try omega)
          have Hfit := Lib.hid hfit
          have Hv := Lib.hid hv
          clear hfit hv
          go_wp2_with first | (go_at_call 74; refine Calls.mono (HN1.out _) ?_; rintro e wz ⟨rfl, hE⟩; replace S := S.ext (Keep.of_below hE); clear hE) | ((with_reducible apply wps_loada (T := 123) (k := 5) S 0); (case hx | hi => rfl); (case hk => exact Nat.le_of_ble_eq_true rfl); (case hT => decide +kernel))
          go_roundw
          case rel => exact ⟨j + 1, by omega, by go_num, fits_snoc Hf.out (by rw [Hv.out]; exact Hfit.out), S⟩
          case measure => first | (simp [intOf]; done) | (simp [intOf]; omega)
        · skip
          have hjs : j < ks.size := by
            rcases Nat.lt_or_ge j ks.size with h | h
            · exact h
            · rw [ByteArray.getElem?_ge' ks _ (by omega)] at hb; cases hb
          have hjs2 : (j : Int) < ks.size := by omega
          have hbt : ((ks[j]'hjs).toNat : Int) = 107 := by
            have h2 := ByteArray.getElem?_lt' ks j hjs
            rw [h2] at hb
            rw [Option.some.inj hb]; rfl
          clear hb
          by_cases g81 : v < 0
          · skip
            have hfit := (show fitsN (ask t.num j) v many = false by rw [ha]; simp [fitsN]; try omega)
            have Hfit := Lib.hid hfit
            have Hv := Lib.hid hv
            clear hfit hv
            go_wp2_with first | (go_at_call 74; refine Calls.mono (HN1.out _) ?_; rintro e wz ⟨rfl, hE⟩; replace S := S.ext (Keep.of_below hE); clear hE) | ((with_reducible apply wps_loada (T := 123) (k := 5) S 0); (case hx | hi => rfl); (case hk => exact Nat.le_of_ble_eq_true rfl); (case hT => decide +kernel))
            go_ret
            exact ⟨ret_int (HB1.out Hfit.out).symm, S.below⟩
          by_cases g54 : 255 < v
          · skip
            have hfit := (show fitsN (ask t.num j) v many = false by rw [ha]; simp [fitsN]; try omega)
            have Hfit := Lib.hid hfit
            have Hv := Lib.hid hv
            clear hfit hv
            go_wp2_with first | (go_at_call 74; refine Calls.mono (HN1.out _) ?_; rintro e wz ⟨rfl, hE⟩; replace S := S.ext (Keep.of_below hE); clear hE) | ((with_reducible apply wps_loada (T := 123) (k := 5) S 0); (case hx | hi => rfl); (case hk => exact Nat.le_of_ble_eq_true rfl); (case hT => decide +kernel))
            go_ret
            exact ⟨ret_int (HB1.out Hfit.out).symm, S.below⟩
          have hfit := (show fitsN (ask t.num j) v many = true by rw [ha]; simp [fitsN]; try omega)
          have Hfit := Lib.hid hfit
          have Hv := Lib.hid hv
          clear hfit hv
          go_wp2_with first | (go_at_call 74; refine Calls.mono (HN1.out _) ?_; rintro e wz ⟨rfl, hE⟩; replace S := S.ext (Keep.of_below hE); clear hE) | ((with_reducible apply wps_loada (T := 123) (k := 5) S 0); (case hx | hi => rfl); (case hk => exact Nat.le_of_ble_eq_true rfl); (case hT => decide +kernel))
          go_roundw
          case rel => exact ⟨j + 1, by omega, by go_num, fits_snoc Hf.out (by rw [Hv.out]; exact Hfit.out), S⟩
          case measure => first | (simp [intOf]; done) | (simp [intOf]; omega)
        · have hjs2 : (ks.size : Int) ≤ j := by omega
          by_cases g0 : v = 0
          · have g0b : (v != 0) = false := by simp [g0]
            have hfit := (show fitsN (ask t.num j) v many = true by rw [ha]; simp [fitsN, g0])
            have Hfit := Lib.hid hfit
            have Hv := Lib.hid hv
            have G0 := Lib.hid g0
            clear hfit hv g0
            go_wp2_with first | (go_at_call 74; refine Calls.mono (HN1.out _) ?_; rintro e wz ⟨rfl, hE⟩; replace S := S.ext (Keep.of_below hE); clear hE) | ((with_reducible apply wps_loada (T := 123) (k := 5) S 0); (case hx | hi => rfl); (case hk => exact Nat.le_of_ble_eq_true rfl); (case hT => decide +kernel))
            go_roundw
            case rel => exact ⟨j + 1, by omega, by go_num, fits_snoc Hf.out (by rw [Hv.out]; exact Hfit.out), S⟩
            case measure => first | (simp [intOf]; done) | (simp [intOf]; omega)
          · have g0b : (v != 0) = true := by simpa using g0
            have hfit := (show fitsN (ask t.num j) v many = false by rw [ha]; simp [fitsN, g0])
            have Hfit := Lib.hid hfit
            have Hv := Lib.hid hv
            have G0 := Lib.hid g0
            clear hfit hv g0
            go_wp2_with first | (go_at_call 74; refine Calls.mono (HN1.out _) ?_; rintro e wz ⟨rfl, hE⟩; replace S := S.ext (Keep.of_below hE); clear hE) | ((with_reducible apply wps_loada (T := 123) (k := 5) S 0); (case hx | hi => rfl); (case hk => exact Nat.le_of_ble_eq_true rfl); (case hT => decide +kernel))
            go_ret
            exact ⟨ret_int (HB1.out Hfit.out).symm, S.below⟩
      · obtain rfl : j = 4 := by omega
        go_wp2_with first | ((with_reducible apply wps_loada (T := 123) (k := 5) S 0); (case hx | hi => rfl); (case hk => exact Nat.le_of_ble_eq_true rfl); (case hT => decide +kernel))
        go_ret
        exact ⟨ret_int (HOK.out Hf.out).symm, S.below⟩
  · have HE := Lib.hid (may_form (many := many) (show isOp x.op = false by simp [isOp]; omega))
    go_enter Tryd.func59, Tryd.ntmps59
    go_wp2_with first | ((with_reducible apply wps_boxa S); (case hx => rfl); clear S; intro bx wz S) | (go_at_call 72; refine Calls.mono (rword_not x.op h1 _) ?_; rintro e wz ⟨rfl, hE⟩; replace S := S.ext (Keep.of_below hE); clear hE) | ((with_reducible apply wps_load S 0); (case hx | hi | hu => rfl); (case hT => decide +kernel))
    go_ret
    exact ⟨ret_int HE.out.symm, S.below⟩
end Go.Proofs.YtfiiaechippboaaDoor
/- The walk of the reference machine's Step. -/
namespace Go.Proofs.YtfiiaechippboaaDoor
open Go Go.RowKit Reg Mem

set_option maxRecDepth 100000 in
theorem elem_REm : Elem Tryd.prog 88 91 4 32 := ⟨_, .agg #[.int .i64 0, .int .i64 0, .int .i64 0, .int .i64 0], Tryd.underlying88, rfl, by kernel_rfl, by kernel_rfl, by kernel_rfl, by kernel_rfl, by omega⟩
def RStepPost (F : Nat → Prop) (R : Nat) (e : Event) (vp : Value) (fan : Int) (o : Option Mach) (m : Mach) (w : World) (r : Ending) (w' : World) : Prop :=
  ∃ vs', r = .returned (.bool o.isSome) ∧ St F w w' [Blk false R (rmCells e vp (o.getD m) fan vs') 119, Own 91 Emit.cells 4 vs' (o.getD m).sent]
set_option maxRecDepth 100000 in
set_option maxHeartbeats 8000000 in
theorem rstepA_calls (F : Nat → Prop) (w : World) (R : Nat) (e : Event) (vp vs : Value) (fan : Int) (cs : List Int) (k : Nat) (sent : List Emit) (p : List Instr)
    (S : St F w w [Blk false R (rmCells e vp ⟨cs, k, sent⟩ fan vs) 119, Own 91 Emit.cells 4 vs sent, Sl true Instr.cells 5 vp p])
    (h8 : cs.length = 8) (_hs : sent.length ≤ 65536) (hp : p.length ≤ 64)
    (x : Instr) (hk : k < p.length) (hx : p[k]? = some x) (hm : mayE x p.length = 0) (hop : (x.op = 1 ∧ cellN x.a) ∨ (x.op = 2 ∧ cellN x.a ∧ cellN x.b)) :
    Calls Tryd.prog 57 #[.pointer (some ⟨R, 0, none⟩)] w (RStepPost F R e vp fan (stepE p e fan ⟨cs, k, sent⟩) ⟨cs, k, sent⟩ w) := by
  obtain ⟨ad, cap, rfl, _⟩ := (S.sl 2 rfl).elim fun _ h => h.form
  have H8 := Lib.hid (show (Mach.mk cs k sent).cs.length = 8 from h8)
  clear h8
  have hk2 : (k : Int) < p.length := by omega
  obtain ⟨RP, oP, rfl⟩ : ∃ R o, ad = some ⟨R, o, none⟩ := (S.sl 2 rfl).elim fun F h => h.head (by omega)
  have hst : stepE p e fan ⟨cs, k, sent⟩ = if x.op = 15 ∨ mayE x p.length ≠ 0 then none else some (doE e fan ⟨cs, k + 1, sent⟩ x) := by
    unfold stepE
    rw [if_neg (by simp; omega)]
    simp only [Int.toNat_natCast, hx]
  have HM := Lib.hid fun w => rmay_calls x p.length w
  have HX := Lib.hid hm
  rw [hm] at HM
  clear hm
  obtain ⟨op, a, b, c, d⟩ := x
  simp only at hop hst
  have Hx := Lib.hid hx
  have Hst := Lib.hid hst
  clear hx hst
  have H8b : ∀ (a v : Int), Hid (((Mach.mk cs k sent).put a v).cs.length = 8) := fun a v => by show _ = _; unfold Mach.put; rw [List.length_set]; exact H8.out
  rcases hop with ⟨rfl, na, ha, rfl⟩ | ⟨rfl, ⟨na, ha, rfl⟩, nb, hb, rfl⟩
  · skip
    rw [Hst.out, if_neg (fun h => h.elim (by decide) (fun h => h HX.out)), show doE e fan ⟨cs, k + 1, sent⟩ ⟨1, na, b, c, d⟩ = (Mach.mk cs (k + 1) sent).put na (b) by simp [doE]]
    go_enter Tryd.func57, Tryd.ntmps57
    go_wp2_with first | ((with_reducible apply wps_alloca (E := 123) S); (case hz => exact Tryd.zeroValue123); clear S; intro bx wz S) | ((with_reducible apply wps_loada_el S 2 (hj := Hx.out) (q := 0) (vs := [.int .i64 (⟨1,na,b,c,d⟩:Instr).op, .int .i64 (⟨1,na,b,c,d⟩:Instr).a, .int .i64 (⟨1,na,b,c,d⟩:Instr).b, .int .i64 (⟨1,na,b,c,d⟩:Instr).c, .int .i64 (⟨1,na,b,c,d⟩:Instr).d]) (m := 5)); (case hx | hi => rfl); (case hn => omega); (case hm | hv => rfl); (case hT => decide +kernel)) | ((with_reducible apply wps_storea (T := 123) S 0 (vs := [.int .i64 1, .int .i64 na, .int .i64 b, .int .i64 c, .int .i64 d]) (m := 5)); (case hx | hy | hi | hm | h1 => rfl); (case hn => exact Nat.le_of_ble_eq_true rfl); (case hT => decide +kernel); clear S; intro wz S; simp only [List.set_cons_zero, List.set_cons_succ, setAll, List.setIfInBounds_toArray] at S) | ((with_reducible apply wps_load S 0 (hu := rm_at (m:=⟨cs,(k:Int),sent⟩) H8.out)); (case hx | hi => rfl); (case hT => decide +kernel)) | ((with_reducible apply wps_load S 0 (hu := rm_prog)); (case hx | hi => rfl); (case hT => decide +kernel)) | ((with_reducible apply wps_load S 1 (hu := rm_at (m:=⟨cs,(k:Int),sent⟩) H8.out)); (case hx | hi => rfl); (case hT => decide +kernel)) | ((with_reducible apply wps_load S 1 (hu := rm_prog)); (case hx | hi => rfl); (case hT => decide +kernel)) | (go_at_call 59; refine Calls.mono (HM.out _) ?_; rintro e wz ⟨rfl, hE⟩; replace S := S.ext (Keep.of_below hE); clear hE) | ((with_reducible apply wps_store S 1 (n := (9+na)) (u := .int .i64 (b))); (case hx | hy | hi | h1 => rfl); (case hT => decide +kernel); (case hn => first | omega | (rw [mach_size H8.out]; omega) | (rw [mach_size H8.out]; decide) | (rw [rm_size H8.out]; omega) | (rw [rm_size H8.out]; decide) | (rw [rm_size (H8b _ _).out]; decide)); clear S; intro wz S; simp only [List.set_cons_succ, List.set_cons_zero] at S; rw [rm_put (m:=⟨cs,(k:Int),sent⟩) H8.out ha] at S) | ((with_reducible apply wps_store S 1 (n := 17) (u := .int .i64 ((k:Int)+1))); (case hx | hy | hi | h1 => rfl); (case hT => decide +kernel); (case hn => first | omega | (rw [mach_size H8.out]; omega) | (rw [mach_size H8.out]; decide) | (rw [rm_size H8.out]; omega) | (rw [rm_size H8.out]; decide) | (rw [rm_size (H8b _ _).out]; decide)); clear S; intro wz S; simp only [List.set_cons_succ, List.set_cons_zero] at S; rw [rm_setat (m:=(Mach.mk cs k sent).put na (b)) (H8b _ _).out] at S) | ((with_reducible refine tot_done ?ht ?_); (case ht => kernel_rfl)) | ((with_reducible apply wps_text S); (case hm => kernel_rfl); (case hB => decide +kernel); clear S; intro wz S) | ((with_reducible apply wps_load S 0); (case hx | hi | hu => rfl); (case hT => decide +kernel)) | ((with_reducible apply wps_loada (T := 123) (k := 5) S 0); (case hx | hi => rfl); (case hk => exact Nat.le_of_ble_eq_true rfl); (case hT => decide +kernel))
    go_ret
    exact ⟨_, by simp, S.pick [1, 2] rfl⟩
  · skip
    rw [Hst.out, if_neg (fun h => h.elim (by decide) (fun h => h HX.out)), show doE e fan ⟨cs, k + 1, sent⟩ ⟨2, na, nb, c, d⟩ = (Mach.mk cs (k + 1) sent).put na ((Mach.mk cs k sent).get nb) by simp [doE, Mach.get]]
    go_enter Tryd.func57, Tryd.ntmps57
    go_wp2_with first | ((with_reducible apply wps_alloca (E := 123) S); (case hz => exact Tryd.zeroValue123); clear S; intro bx wz S) | ((with_reducible apply wps_loada_el S 2 (hj := Hx.out) (q := 0) (vs := [.int .i64 (⟨2,na,nb,c,d⟩:Instr).op, .int .i64 (⟨2,na,nb,c,d⟩:Instr).a, .int .i64 (⟨2,na,nb,c,d⟩:Instr).b, .int .i64 (⟨2,na,nb,c,d⟩:Instr).c, .int .i64 (⟨2,na,nb,c,d⟩:Instr).d]) (m := 5)); (case hx | hi => rfl); (case hn => omega); (case hm | hv => rfl); (case hT => decide +kernel)) | ((with_reducible apply wps_storea (T := 123) S 0 (vs := [.int .i64 2, .int .i64 na, .int .i64 nb, .int .i64 c, .int .i64 d]) (m := 5)); (case hx | hy | hi | hm | h1 => rfl); (case hn => exact Nat.le_of_ble_eq_true rfl); (case hT => decide +kernel); clear S; intro wz S; simp only [List.set_cons_zero, List.set_cons_succ, setAll, List.setIfInBounds_toArray] at S) | ((with_reducible apply wps_load S 0 (hu := rm_at (m:=⟨cs,(k:Int),sent⟩) H8.out)); (case hx | hi => rfl); (case hT => decide +kernel)) | ((with_reducible apply wps_load S 0 (hu := rm_prog)); (case hx | hi => rfl); (case hT => decide +kernel)) | ((with_reducible apply wps_load S 1 (hu := rm_at (m:=⟨cs,(k:Int),sent⟩) H8.out)); (case hx | hi => rfl); (case hT => decide +kernel)) | ((with_reducible apply wps_load S 1 (hu := rm_prog)); (case hx | hi => rfl); (case hT => decide +kernel)) | (go_at_call 59; refine Calls.mono (HM.out _) ?_; rintro e wz ⟨rfl, hE⟩; replace S := S.ext (Keep.of_below hE); clear hE) | ((with_reducible apply wps_load S 1 (hu := rm_cell (m:=⟨cs,(k:Int),sent⟩) H8.out hb)); (case hx | hi => rfl); (case hT => decide +kernel)) | ((with_reducible apply wps_store S 1 (n := (9+na)) (u := .int .i64 ((Mach.mk cs k sent).get nb))); (case hx | hy | hi | h1 => rfl); (case hT => decide +kernel); (case hn => first | omega | (rw [mach_size H8.out]; omega) | (rw [mach_size H8.out]; decide) | (rw [rm_size H8.out]; omega) | (rw [rm_size H8.out]; decide) | (rw [rm_size (H8b _ _).out]; decide)); clear S; intro wz S; simp only [List.set_cons_succ, List.set_cons_zero] at S; rw [rm_put (m:=⟨cs,(k:Int),sent⟩) H8.out ha] at S) | ((with_reducible apply wps_store S 1 (n := 17) (u := .int .i64 ((k:Int)+1))); (case hx | hy | hi | h1 => rfl); (case hT => decide +kernel); (case hn => first | omega | (rw [mach_size H8.out]; omega) | (rw [mach_size H8.out]; decide) | (rw [rm_size H8.out]; omega) | (rw [rm_size H8.out]; decide) | (rw [rm_size (H8b _ _).out]; decide)); clear S; intro wz S; simp only [List.set_cons_succ, List.set_cons_zero] at S; rw [rm_setat (m:=(Mach.mk cs k sent).put na ((Mach.mk cs k sent).get nb)) (H8b _ _).out] at S) | ((with_reducible refine tot_done ?ht ?_); (case ht => kernel_rfl)) | ((with_reducible apply wps_text S); (case hm => kernel_rfl); (case hB => decide +kernel); clear S; intro wz S) | ((with_reducible apply wps_load S 0); (case hx | hi | hu => rfl); (case hT => decide +kernel)) | ((with_reducible apply wps_loada (T := 123) (k := 5) S 0); (case hx | hi => rfl); (case hk => exact Nat.le_of_ble_eq_true rfl); (case hT => decide +kernel))
    go_ret
    exact ⟨_, by simp, S.pick [1, 2] rfl⟩
end Go.Proofs.YtfiiaechippboaaDoor

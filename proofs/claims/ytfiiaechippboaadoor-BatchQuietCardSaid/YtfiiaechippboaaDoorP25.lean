import Derived.Test.YtfiiaechippboaaDoorP24
import Derived.Test.YtfiiaechippboaaDoorP13
import Derived.Test.YtfiiaechippboaaDoorP12
import Derived.Test.YtfiiaechippboaaDoorP23
import Derived.Test.YtfiiaechippboaaDoorP10
/- The walks of the law's awake and BatchNil. -/
namespace Go.Proofs.YtfiiaechippboaaDoor
open Go Go.RowKit Reg Mem

def wk8 : Cfg := ⟨[[⟨1, 4, 1, 0, 0⟩, ⟨1, 5, 2, 0, 0⟩, ⟨12, 6, 0, 0, 0⟩, ⟨14, 4, 5, 6, 0⟩]], [⟨0, ⟨0, 0, 0, 0⟩⟩, ⟨0, ⟨0, 0, 0, 0⟩⟩], [], 9, 9, 1⟩
def wk8e : Event := ⟨⟨5, -1, -1, 0⟩, 0, 0, 9⟩
def wk8x : Event := ⟨⟨7, 0, 5, 0⟩, 1, 0, 9⟩
theorem wk8_ok : cfgE wk8 = 0 := by decide +kernel
theorem wk8_wrong : wrongE wk8.lps.length 0 [wk8e] = 0 := by decide +kernel
theorem wk8_run : (batchC wk8 0 ⟨0, 0, 0, 0⟩ [wk8e]).2 = [wk8x] := by decide +kernel
theorem wk8_mid : Mid wk8 := ⟨by decide, by decide, by decide⟩
theorem wk8_mid2 : ∀ p ∈ wk8.programs, p.length ≤ 65536 := by decide
set_option maxRecDepth 100000 in
set_option maxHeartbeats 4000000 in
theorem awake8_calls (w : World) (F : Nat → Prop) (ht : Tab.at_ w F) : Calls Tryd.prog 11 #[] w fun r w' => r = .returned (.bool true) ∧ Below w.heap.size w w' := by
  have S : St (fun _ => False) w w [Tab] := (St.init _ w).share rfl rfl ht
  clear ht
  replace S := S.nil 96 Start.cells 4
  go_enter Tryd.func11, Tryd.ntmps11
  go_wp2_with first
    | go_skip
    | ((with_reducible refine wpList_skip ?hw ?_); (case hw => with_unfolding_all rfl); simp only [Act.put, List.setIfInBounds_toArray, List.set_cons_succ, List.set_cons_zero])
    | ((with_reducible apply wps_buildSlice (T := 71) (E := 70) (cs := #[.int .i64 1, .int .i64 4, .int .i64 1, .int .i64 0, .int .i64 0, .int .i64 1, .int .i64 5, .int .i64 2, .int .i64 0, .int .i64 0, .int .i64 12, .int .i64 6, .int .i64 0, .int .i64 0, .int .i64 0, .int .i64 14, .int .i64 4, .int .i64 5, .int .i64 6, .int .i64 0]) S); (case hr => intro w; kernel_rfl); clear S; intro bi wz S)
    | ((with_reducible apply wps_buildSlice (T := 22) (E := 71) (cs := #[.slice (some ⟨bi, 0, none⟩) 4 4]) S); (case hr => intro w; kernel_rfl); clear S; intro bh wz S)
    | ((with_reducible apply wps_buildSlice (T := 23) (E := 73) (cs := #[.int .i64 0, .int .i64 0, .int .i64 0, .int .i64 0, .int .i64 0, .int .i64 0, .int .i64 0, .int .i64 0, .int .i64 0, .int .i64 0]) S); (case hr => intro w; kernel_rfl); clear S; intro bp wz S)
    | ((with_reducible refine tot_done ?ht ?_); (case ht => kernel_rfl))
    | ((with_reducible apply wps_alloca (E := 28) S); (case hz => exact Tryd.zeroValue28); clear S; intro bz wz S)
  have hcfg : (CfgA true [.slice (some ⟨bh, 0, none⟩) 1 1, .slice (some ⟨bp, 0, none⟩) 2 2, .slice none 0 0, .int .i64 9, .int .i64 9, .int .i64 1] [.slice (some ⟨bi, 0, none⟩) 4 4] wk8).at_ wz (fun b => b < wz.heap.size) :=
    cfg_any (c := wk8) (blk_sl (n := 1) [.slice (some ⟨bi, 0, none⟩) 4 4] vcells (S.get (i := 1) rfl).choose_spec rfl rfl) (blk_sl (n := 2) wk8.lps plcells (S.get (i := 0) rfl).choose_spec rfl rfl) (own_sl (sh := true) stcells (S.get (i := 3) rfl).choose_spec)
      (sls_one (blk_sl (n := 4) wk8.programs[0] incells (S.get (i := 2) rfl).choose_spec rfl rfl))
  refine Calls.mono (new_calls _ _ wk8 _ _ _ hcfg (S.get (i := 4) rfl).choose_spec wk8_mid wk8_mid2) ?_
  clear hcfg
  rintro e wz (⟨h, _⟩ | ⟨_, R, vs, hs, rfl, T⟩)
  · exact absurd wk8_ok h
  replace S := ((S.join T rfl).modShare 0 rfl).pick [0, 5] rfl
  repeat (first | simp only at S | simp only [pick] at S | simp only [nth] at S | simp only [List.set_cons_succ] at S | simp only [List.set_cons_zero] at S | simp only [List.setIfInBounds_toArray] at S | simp only [setAll] at S | simp only [List.cons_append] at S | simp only [List.nil_append] at S)
  clear T
  go_wp2_with first
    | go_skip
    | ((with_reducible refine wpList_skip ?hw ?_); (case hw => with_unfolding_all rfl); simp only [Act.put, List.setIfInBounds_toArray, List.set_cons_succ, List.set_cons_zero])
    | ((with_reducible apply wps_buildSlice (T := 29) (E := 54) (cs := #[.int .i64 5, .int .i64 (-1), .int .i64 (-1), .int .i64 0, .int .i64 0, .int .i64 0, .int .i64 9]) S); (case hr => intro w; kernel_rfl); clear S; intro be wz S)
    | ((with_reducible refine tot_done ?ht ?_); (case ht => kernel_rfl))
    | ((with_reducible apply wps_alloca (E := 28) S); (case hz => exact Tryd.zeroValue28); clear S; intro bz wz S)
  refine Calls.mono (brun_calls R vs hs wk8 0 ⟨0, 0, 0, 0⟩ _ [wk8e] _ _ _ _ (S.get (i := 1) rfl).choose_spec (blk_sl (n := 1) [wk8e] ecells (S.get (i := 0) rfl).choose_spec rfl rfl) (S.get (i := 2) rfl).choose_spec (by decide) wk8_ok (fun _ => by decide)) ?_
  rintro e wz (⟨h, _⟩ | ⟨_, v, rfl, T⟩)
  · exact absurd wk8_wrong h
  rw [wk8_run] at T
  replace S := (S.join T rfl).freeze true 0 ecells rfl
  simp only [List.cons_append, List.nil_append, List.set_cons_zero] at S
  clear T
  go_wp2_with first
    | go_skip
    | ((with_reducible refine wpList_skip ?hw ?_); (case hw => with_unfolding_all rfl); simp only [Act.put, List.setIfInBounds_toArray, List.set_cons_succ, List.set_cons_zero])
    | ((with_reducible apply wps_buildSlice (T := 29) (E := 54) (cs := #[.int .i64 7, .int .i64 0, .int .i64 5, .int .i64 0, .int .i64 1, .int .i64 0, .int .i64 9]) S); (case hr => intro w; kernel_rfl); clear S; intro be2 wz S)
    | ((with_reducible apply wps_alloca (E := 28) S); (case hz => exact Tryd.zeroValue28); clear S; intro bs wz S)
    | ((with_reducible apply wps_storea (T := 28) S 0 (vs := [_, _, _, _]) (m := 4)); (case hx => rfl); (case hy => rfl); (case hi => rfl); (case hT => decide +kernel); (case hm => rfl); (case h1 => rfl); (case hn => exact Nat.le_of_ble_eq_true rfl); clear S; intro wz S; simp only [List.set_cons_zero, setAll, List.setIfInBounds_toArray] at S)
    | (go_at_call 16; refine Calls.mono (evseq_calls _ _ [wk8x] [wk8x] _ _ _ (S.get (i := 2) rfl).choose_spec (blk_sl (n := 1) [wk8x] ecells (S.get (i := 0) rfl).choose_spec rfl rfl) (by decide) (by decide)) ?_; rintro e wz ⟨rfl, hE⟩; replace S := S.ext (Keep.of_below hE); clear hE)
    | ((with_reducible refine tot_done ?ht ?_); (case ht => kernel_rfl))
    | ((with_reducible apply wps_alloca (E := 28) S); (case hz => exact Tryd.zeroValue28); clear S; intro bz wz S)
  go_ret
  exact ⟨by simp, S.below⟩
end Go.Proofs.YtfiiaechippboaaDoor
/- Plain: what is sent in a batch; and a configuration that is shared. -/
namespace Go.Proofs.YtfiiaechippboaaDoor
open Go Go.RowKit Mem

section
variable {G : Nat → Prop} {w0 w : World} {L : List Asn} {vs hs : List Value} {c : Cfg}
theorem Mem.St.cfgShare (S : St G w0 w L) (i : Nat) (hi : L[i]? = some (CfgA false vs hs c)) : St G w0 w (L.set i (CfgA true vs hs c)) :=
  S.weak hi (fun e => by cases e) (fun F h => ⟨F, fun _ hb => hb, h⟩)
end
/-- What is known of each message's event. -/
structure SentOk (n : Nat) (fin lp at_ : Int) (out : List Event) : Prop where
  each : ∀ (i : Nat) (x : Event), out[i]? = some x → x.key.src = lp ∧ x.key.sent = at_ ∧ x.key.no = i ∧ at_ < x.key.at_ ∧ x.key.at_ ≤ fin ∧ 0 ≤ x.dst ∧ x.dst < n
theorem SentOk.nil (n : Nat) (fin lp at_ : Int) : SentOk n fin lp at_ [] := ⟨fun i x h => by simp at h⟩
theorem SentOk.send {n : Nat} {fin lp at_ : Int} {out : List Event} (h : SentOk n fin lp at_ out) (y : Emit) : SentOk n fin lp at_ (sendE n fin lp at_ out y) := by
  unfold sendE
  split
  · rename_i hm
    unfold msgE at hm
    rw [decide_eq_true_eq] at hm
    refine ⟨fun i x hx => ?_⟩
    by_cases hi : i < out.length
    · rw [List.getElem?_append_left hi] at hx; exact h.each i x hx
    · have hi2 : i = out.length := by have := (List.getElem?_eq_some_iff.1 hx).1; simp at this; omega
      subst hi2
      rw [List.getElem?_append_right (Nat.le_refl _)] at hx
      simp at hx
      subst hx
      exact ⟨rfl, rfl, rfl, by simp only; omega, hm.2.2.2.2, hm.1, hm.2.1⟩
  · exact h
theorem SentOk.sends {n : Nat} {fin lp at_ : Int} : ∀ (em : List Emit) {out : List Event}, SentOk n fin lp at_ out → SentOk n fin lp at_ (em.foldl (sendE n fin lp at_) out)
  | [], _, h => h
  | y :: em, _, h => SentOk.sends em (h.send y)
theorem SentOk.ones {p : List Instr} {n : Nat} {fin fuel fan lp at_ : Int} : ∀ (l : List Event) {st : State × List Event}, SentOk n fin lp at_ st.2 → SentOk n fin lp at_ (l.foldl (oneE p n fin fuel fan lp at_) st).2
  | [], _, h => h
  | x :: l, st, h => SentOk.ones l (st := oneE p n fin fuel fan lp at_ st x) (SentOk.sends _ h)
theorem batch_sent (c : Cfg) (lp : Int) (s : State) (l : List Event) : SentOk c.lps.length c.fin lp (atE l) (batchC c lp s l).2 := SentOk.ones _ (SentOk.nil _ _ _ _)
theorem batch_len (c : Cfg) (lp : Int) (s : State) (l : List Event) (h : 0 ≤ c.fan) : ((batchC c lp s l).2.length : Int) ≤ c.fan * l.length := by
  have := ones_len (p := progOf c lp) (n := c.lps.length) (fin := c.fin) (fuel := c.fuel) (lp := lp) (at_ := atE l) h (sortE l) (s, [])
  rw [sortE_len] at this
  have e : (s, ([] : List Event)).2.length = 0 := rfl
  rw [e] at this
  unfold batchC batchE
  omega
theorem wrong_lp {n : Nat} {lp : Int} {l : List Event} (h : wrongE n lp l = 0) : 0 ≤ lp ∧ lp < n := Classical.byContradiction fun g => by
  unfold wrongE at h; rw [if_pos (by omega)] at h; cases h
theorem wrong_len {n : Nat} {lp : Int} {l : List Event} (h : wrongE n lp l = 0) : 0 < l.length := Nat.pos_of_ne_zero fun g => by
  have := wrong_lp h
  unfold wrongE at h; rw [if_neg (by omega), if_pos g] at h; cases h
theorem atE_get {l : List Event} {x : Event} (h : l[0]? = some x) : atE l = x.key.at_ := by
  cases l with
  | nil => simp at h
  | cons a l => simp at h; subst h; rfl
theorem chk_at {e : Event} (h : chk e = 0) : 0 ≤ e.key.at_ ∧ e.key.at_ ≤ 1073741824 := by
  unfold chk at h
  split at h
  · cases h
  · omega
end Go.Proofs.YtfiiaechippboaaDoor
/- Plain: a process without instructions; messages that go behind the end. -/
namespace Go.Proofs.YtfiiaechippboaaDoor
open Go Go.RowKit Mem

/-- A configuration with its programs left away. -/
def stillC (c : Cfg) : Cfg := ⟨List.replicate c.programs.length [], c.lps, c.starts, c.fin, c.fuel, c.fan⟩
/-- One without starts that ends at a time. -/
def lateC (c : Cfg) (t : Int) : Cfg := ⟨c.programs, c.lps, [], t, c.fuel, c.fan⟩
theorem cfg_of {c : Cfg} (h : CfgFine c) : cfgE c = 0 := by
  unfold cfgE
  rw [firstE_zero]
  simp only [List.mem_cons, List.not_mem_nil, or_false, forall_eq_or_imp, forall_eq]
  refine ⟨if_pos h.sizes, if_neg (by have := h.starts; omega), ?_, if_pos ⟨h.lps, h.dsts⟩, if_pos h.times⟩
  unfold programsE
  rw [firstE_zero]
  intro x hx
  obtain ⟨p, hp, rfl⟩ := List.mem_map.1 hx
  exact h.progs p hp
theorem still_ok {c : Cfg} (h : madeB c = true) : madeB (stillC c) = true := by
  unfold madeB at h ⊢
  rw [Bool.and_eq_true, decide_eq_true_eq] at h ⊢
  have hf := few_iff.1 h.1
  have hk := cfg_isfine h.2
  refine ⟨few_iff.2 ⟨fun p hp => ?_, by simpa [stillC] using hf.2.1, hf.2.2.1, hf.2.2.2⟩, cfg_of ⟨?_, hk.starts, fun p hp => ?_, fun p hp => ?_, hk.dsts, hk.times⟩⟩
  · obtain ⟨_, rfl⟩ := List.mem_replicate.1 hp; simp
  · have := hk.sizes; unfold sizesOk at *; simpa [stillC] using this
  · obtain ⟨_, rfl⟩ := List.mem_replicate.1 hp; rfl
  · have := hk.lps p hp; simpa [stillC] using this
theorem late_ok {c : Cfg} (h : madeB c = true) {t : Int} (h1 : 1 ≤ t) (h2 : t ≤ 1073741824) : madeB (lateC c t) = true := by
  unfold madeB at h ⊢
  rw [Bool.and_eq_true, decide_eq_true_eq] at h ⊢
  have hf := few_iff.1 h.1
  have hk := cfg_isfine h.2
  refine ⟨few_iff.2 ⟨hf.1, hf.2.1, hf.2.2.1, by simp [lateC]⟩, cfg_of ⟨?_, by simp [lateC], hk.progs, hk.lps, fun s hs => by simp [lateC] at hs, fun s hs => by simp [lateC] at hs⟩⟩
  have := hk.sizes; unfold sizesOk at *; exact ⟨this.1, this.2.1, ⟨h1, h2⟩, this.2.2.2⟩
theorem late_no {c : Cfg} : madeB (lateC c 0) = false := by
  unfold madeB
  have h1 : sizesE (lateC c 0) = 10 := if_neg (fun h => by have := h.2.2.1.1; simp [lateC] at this)
  have h2 : cfgE (lateC c 0) = 10 := by unfold cfgE firstE; rw [h1]; rfl
  rw [h2]; simp
theorem run_nil (s : State) (e : Event) (fuel fan : Int) : runE [] s e fuel fan = startE s := by
  have key : ∀ n, stepsE [] e fan n (startE s) = startE s := by
    intro n
    cases n with
    | zero => rfl
    | succ n => unfold stepsE; rfl
  exact key _
theorem prog_still (c : Cfg) (lp : Int) : progOf (stillC c) lp = [] := by
  unfold progOf stillC
  simp only [List.getElem?_replicate]
  split <;> rfl
theorem still_run (c : Cfg) (lp : Int) (s : State) (l : List Event) : batchC (stillC c) lp s l = (s, []) := by
  unfold batchC batchE
  rw [prog_still]
  have key : ∀ l : List Event, l.foldl (oneE [] (stillC c).lps.length (stillC c).fin (stillC c).fuel (stillC c).fan lp (atE l)) (s, []) = (s, []) := by
    intro l
    have step : ∀ (m : List Event) (a : Int), m.foldl (oneE [] (stillC c).lps.length (stillC c).fin (stillC c).fuel (stillC c).fan lp a) (s, []) = (s, []) := by
      intro m a
      induction m with
      | nil => rfl
      | cons x m ih =>
        rw [List.foldl_cons]
        have : oneE [] (stillC c).lps.length (stillC c).fin (stillC c).fuel (stillC c).fan lp a (s, []) x = (s, []) := by
          unfold oneE; rw [run_nil]; rfl
        rw [this, ih]
    exact step l _
  have step : ∀ (m : List Event) (a : Int), m.foldl (oneE [] (stillC c).lps.length (stillC c).fin (stillC c).fuel (stillC c).fan lp a) (s, []) = (s, []) := by
    intro m a
    induction m with
    | nil => rfl
    | cons x m ih =>
      rw [List.foldl_cons]
      have : oneE [] (stillC c).lps.length (stillC c).fin (stillC c).fuel (stillC c).fan lp a (s, []) x = (s, []) := by
        unfold oneE; rw [run_nil]; rfl
      rw [this, ih]
  exact step _ _
theorem late_none {n : Nat} {lp at_ : Int} : ∀ (em : List Emit), em.foldl (sendE n at_ lp at_) [] = []
  | [] => rfl
  | y :: em => by
    have : sendE n at_ lp at_ [] y = [] := by
      unfold sendE
      rw [if_neg]
      unfold msgE
      rw [decide_eq_true_eq]
      omega
    rw [List.foldl_cons, this, late_none em]
theorem late_run (c : Cfg) (lp : Int) (s : State) (l : List Event) : (batchC (lateC c (atE l)) lp s l).1 = (batchC c lp s l).1 ∧ (batchC (lateC c (atE l)) lp s l).2 = [] := by
  have key : ∀ (p : List Instr) (n : Nat) (fin fuel fan a : Int) (m : List Event) (st : State) (o : List Event), (m.foldl (oneE p n a fuel fan lp a) (st, [])).1 = (m.foldl (oneE p n fin fuel fan lp a) (st, o)).1 ∧ (m.foldl (oneE p n a fuel fan lp a) (st, [])).2 = [] := by
    intro p n fin fuel fan a m
    induction m with
    | nil => intro st o; exact ⟨rfl, rfl⟩
    | cons x m ih =>
      intro st o
      rw [List.foldl_cons, List.foldl_cons]
      have e1 : oneE p n a fuel fan lp a (st, []) x = ((runE p st x fuel fan).state, []) := by unfold oneE; rw [late_none]
      rw [e1]
      exact ih _ _
  exact key _ _ _ _ _ _ _ _ _
end Go.Proofs.YtfiiaechippboaaDoor

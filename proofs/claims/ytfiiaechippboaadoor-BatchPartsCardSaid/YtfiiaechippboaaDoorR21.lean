import Derived.Test.YtfiiaechippboaaDoorR20
import Derived.Test.YtfiiaechippboaaDoorR14
import Derived.Test.YtfiiaechippboaaDoorR10
import Derived.Deep.CutRange
import Derived.Test.YtfiiaechippboaaDoorR06
import Derived.Test.YtfiiaechippboaaDoorR04
import Derived.Test.YtfiiaechippboaaDoorR16
/- The walks of batch.Replay and batch.Sends. -/
namespace Go.Proofs.YtfiiaechippboaaDoor
open Go Go.RowKit Reg Mem

theorem manyU {c : Cfg} {lp : Int} {s : State} {l : List Event} {w : World} {r : Ending} {w' : World} (h : ManyPost c lp s l w r w') :
    ∃ v, r = .returned (.tuple #[.agg #[.int .i64 (manyC c lp s l).1.n0, .int .i64 (manyC c lp s l).1.n1, .int .i64 (manyC c lp s l).1.n2, .int .i64 (manyC c lp s l).1.n3], v, .int .i64 (aloneE c.lps.length lp l)]) ∧ St (fun _ => False) w w' [Mem.Own 54 Event.cells 7 v (manyC c lp s l).2] := by
  unfold manyC
  rcases h with ⟨hne, rfl, hE⟩ | ⟨h0, v, rfl, S⟩
  · rw [if_neg hne]
    exact ⟨_, rfl, ((St.init _ w).ext (Keep.of_below hE)).nil 54 Event.cells 7⟩
  · rw [if_pos h0, h0]
    exact ⟨v, rfl, S⟩
set_option maxRecDepth 100000 in
set_option maxHeartbeats 8000000 in
theorem bReplay_calls (R : Nat) (vs hs : List Value) (c : Cfg) (lp : Int) (s : State) (v : Value) (l : List Event) (w : World) (F F2 F3 : Nat → Prop) (h : (ModA true 93 R vs hs c).at_ w F) (h2 : (Sl true Event.cells 7 v l).at_ w F2) (ht : Tab.at_ w F3) (hn : l.length ≤ 16384)
    (hc : cfgE c = 0) (hat : aloneE c.lps.length lp l = 0 → ∀ x ∈ l, 0 ≤ x.key.at_ ∧ x.key.at_ ≤ 1073741824) :
    Calls Tryd.prog 21 #[.pointer (some ⟨R, 0, none⟩), .int .i64 lp, .agg #[.int .i64 s.n0, .int .i64 s.n1, .int .i64 s.n2, .int .i64 s.n3], v] w fun r w' => r = .returned (.tuple #[.agg #[.int .i64 (manyC c lp s l).1.n0, .int .i64 (manyC c lp s l).1.n1, .int .i64 (manyC c lp s l).1.n2, .int .i64 (manyC c lp s l).1.n3], .int .i64 (aloneE c.lps.length lp l)]) ∧ Below w.heap.size w w' := by
  have S : St (fun _ => False) w w [ModA true 93 R vs hs c, Sl true Event.cells 7 v l, Tab] := (((St.init _ w).share rfl rfl ht).share (A := Sl true Event.cells 7 v l) rfl rfl h2).share rfl rfl h
  obtain ⟨ad, cp, rfl, _⟩ := (S.sl 1 rfl).elim fun _ h => h.form
  clear h h2 ht
  have HR := Lib.hid fun w F F2 F3 h h2 h3 => (replay_calls R vs hs c lp s (.slice ad l.length cp) l w F F2 F3 h h2 h3 hn hc hat).mono fun r w' h => manyU h
  obtain ⟨st, hst⟩ : ∃ st, manyC c lp s l = st := ⟨_, rfl⟩
  obtain ⟨e, he⟩ : ∃ e, aloneE c.lps.length lp l = e := ⟨_, rfl⟩
  rw [hst, he] at HR
  have Hst := Lib.hid hst
  have He := Lib.hid he
  clear hst he
  clear hat hc
  go_enter Tryd.func21, Tryd.ntmps21
  go_wp2_with first
    | ((with_reducible apply wps_boxa (E := 28) S); (case hx => rfl); clear S; intro b6 wz S)
    | ((with_reducible apply wps_alloca (E := 28) S); (case hz => exact Tryd.zeroValue28); clear S; intro b8 wz S)
    | ((with_reducible apply wps_loada (T := 28) (k := 4) S 1); (case hx => rfl); (case hi => rfl); (case hT => decide +kernel); (case hk => exact Nat.le_of_ble_eq_true rfl))
    | (go_at_call 40; refine Calls.mono (HR.out _ _ _ _ (S.get (i := 2) rfl).choose_spec (S.get (i := 3) rfl).choose_spec (S.get (i := 4) rfl).choose_spec) ?_; rintro r wz ⟨v2, rfl, T⟩; obtain ⟨ad2, cp2, rfl, _⟩ := (T.ownsl ecells 0 rfl).elim fun _ h => h.form; replace S := S.join T rfl; clear T; simp only [List.cons_append, List.nil_append] at S)
    | ((with_reducible apply wps_storea (T := 28) S 2 (vs := [.int .i64 st.1.n0, .int .i64 st.1.n1, .int .i64 st.1.n2, .int .i64 st.1.n3]) (m := 4)); (case hx => rfl); (case hy => rfl); (case hi => rfl); (case hT => decide +kernel); (case hm => rfl); (case h1 => rfl); (case hn => exact Nat.le_of_ble_eq_true rfl); clear S; intro wz S; simp only [List.set_cons_zero, List.set_cons_succ, setAll, List.setIfInBounds_toArray] at S)
    | ((with_reducible apply wps_storea (T := 28) S 1 (vs := [.int .i64 st.1.n0, .int .i64 st.1.n1, .int .i64 st.1.n2, .int .i64 st.1.n3]) (m := 4)); (case hx => rfl); (case hy => rfl); (case hi => rfl); (case hT => decide +kernel); (case hm => rfl); (case h1 => rfl); (case hn => exact Nat.le_of_ble_eq_true rfl); clear S; intro wz S; simp only [List.set_cons_zero, List.set_cons_succ, setAll, List.setIfInBounds_toArray] at S)
    | ((with_reducible apply wps_loada (T := 28) (k := 4) S 2); (case hx => rfl); (case hi => rfl); (case hT => decide +kernel); (case hk => exact Nat.le_of_ble_eq_true rfl))
    | ((with_reducible refine tot_done ?ht ?_); (case ht => kernel_rfl))
    | ((with_reducible apply wps_boxa S); (case hx => rfl); clear S; intro bz wz S)
    | ((with_reducible apply wps_box1 (v := .int _ _) S); (case hx => rfl); (case h1 => rfl); clear S; intro bz wz S)
    | ((with_reducible apply wps_box1 (v := .bool _) S); (case hx => rfl); (case h1 => rfl); clear S; intro bz wz S)
    | ((with_reducible apply wps_box1 (v := .slice _ _ _) S); (case hx => rfl); (case h1 => rfl); clear S; intro bz wz S)
    | ((with_reducible apply wps_box1 (v := .pointer _) S); (case hx => rfl); (case h1 => rfl); clear S; intro bz wz S)
    | ((with_reducible apply wps_box1 (v := .map _) S); (case hx => rfl); (case h1 => rfl); clear S; intro bz wz S)
    | ((with_reducible apply wps_box1 (v := .string _) S); (case hx => rfl); (case h1 => rfl); clear S; intro bz wz S)
    | ((with_reducible apply wps_box1 (v := .func _ _ _) S); (case hx => rfl); (case h1 => rfl); clear S; intro bz wz S)
    | ((with_reducible apply wps_alloca (E := 28) S); (case hz => exact Tryd.zeroValue28); clear S; intro bz wz S)
    | ((with_reducible apply wps_loada (T := 28) (k := 4) S 0); (case hx => rfl); (case hi => rfl); (case hT => decide +kernel); (case hk => exact Nat.le_of_ble_eq_true rfl))
  (try simp only [Exit.inBlock, Exit.then]); refine bodyPost_ret (results2 rfl (S.resA 1 rfl rfl (by kernel_rfl)) (res_tmp rfl)) rfl ?_
  rw [Hst.out, He.out]
  exact ⟨rfl, S.below⟩
set_option maxRecDepth 100000 in
set_option maxHeartbeats 8000000 in
theorem bSends_calls (R : Nat) (vs hs : List Value) (c : Cfg) (lp : Int) (s : State) (v : Value) (l : List Event) (w : World) (F F2 F3 : Nat → Prop) (h : (ModA true 93 R vs hs c).at_ w F) (h2 : (Sl true Event.cells 7 v l).at_ w F2) (ht : Tab.at_ w F3) (hn : l.length ≤ 16384)
    (hc : cfgE c = 0) (hat : aloneE c.lps.length lp l = 0 → ∀ x ∈ l, 0 ≤ x.key.at_ ∧ x.key.at_ ≤ 1073741824) :
    Calls Tryd.prog 22 #[.pointer (some ⟨R, 0, none⟩), .int .i64 lp, .agg #[.int .i64 s.n0, .int .i64 s.n1, .int .i64 s.n2, .int .i64 s.n3], v] w fun r w' => ∃ v, r = .returned (.tuple #[v, .int .i64 (aloneE c.lps.length lp l)]) ∧ St (fun _ => False) w w' [Mem.Own 54 Event.cells 7 v (manyC c lp s l).2] := by
  have S : St (fun _ => False) w w [ModA true 93 R vs hs c, Sl true Event.cells 7 v l, Tab] := (((St.init _ w).share rfl rfl ht).share (A := Sl true Event.cells 7 v l) rfl rfl h2).share rfl rfl h
  obtain ⟨ad, cp, rfl, _⟩ := (S.sl 1 rfl).elim fun _ h => h.form
  clear h h2 ht
  have HR := Lib.hid fun w F F2 F3 h h2 h3 => (replay_calls R vs hs c lp s (.slice ad l.length cp) l w F F2 F3 h h2 h3 hn hc hat).mono fun r w' h => manyU h
  obtain ⟨st, hst⟩ : ∃ st, manyC c lp s l = st := ⟨_, rfl⟩
  obtain ⟨e, he⟩ : ∃ e, aloneE c.lps.length lp l = e := ⟨_, rfl⟩
  rw [hst, he] at HR
  have Hst := Lib.hid hst
  have He := Lib.hid he
  clear hst he
  clear hat hc
  go_enter Tryd.func22, Tryd.ntmps22
  go_wp2_with first
    | ((with_reducible apply wps_boxa (E := 28) S); (case hx => rfl); clear S; intro b6 wz S)
    | ((with_reducible apply wps_loada (T := 28) (k := 4) S 0); (case hx => rfl); (case hi => rfl); (case hT => decide +kernel); (case hk => exact Nat.le_of_ble_eq_true rfl))
    | (go_at_call 40; refine Calls.mono (HR.out _ _ _ _ (S.get (i := 1) rfl).choose_spec (S.get (i := 2) rfl).choose_spec (S.get (i := 3) rfl).choose_spec) ?_; rintro r wz ⟨v2, rfl, T⟩; obtain ⟨ad2, cp2, rfl, _⟩ := (T.ownsl ecells 0 rfl).elim fun _ h => h.form; replace S := S.join T rfl; clear T; simp only [List.cons_append, List.nil_append] at S)
    | ((with_reducible apply wps_alloca (E := 28) S); (case hz => exact Tryd.zeroValue28); clear S; intro b10 wz S)
    | ((with_reducible apply wps_storea (T := 28) S 0 (vs := [.int .i64 st.1.n0, .int .i64 st.1.n1, .int .i64 st.1.n2, .int .i64 st.1.n3]) (m := 4)); (case hx => rfl); (case hy => rfl); (case hi => rfl); (case hT => decide +kernel); (case hm => rfl); (case h1 => rfl); (case hn => exact Nat.le_of_ble_eq_true rfl); clear S; intro wz S; simp only [List.set_cons_zero, List.set_cons_succ, setAll, List.setIfInBounds_toArray] at S)
    | ((with_reducible refine tot_done ?ht ?_); (case ht => kernel_rfl))
    | ((with_reducible apply wps_boxa S); (case hx => rfl); clear S; intro bz wz S)
    | ((with_reducible apply wps_box1 (v := .int _ _) S); (case hx => rfl); (case h1 => rfl); clear S; intro bz wz S)
    | ((with_reducible apply wps_box1 (v := .bool _) S); (case hx => rfl); (case h1 => rfl); clear S; intro bz wz S)
    | ((with_reducible apply wps_box1 (v := .slice _ _ _) S); (case hx => rfl); (case h1 => rfl); clear S; intro bz wz S)
    | ((with_reducible apply wps_box1 (v := .pointer _) S); (case hx => rfl); (case h1 => rfl); clear S; intro bz wz S)
    | ((with_reducible apply wps_box1 (v := .map _) S); (case hx => rfl); (case h1 => rfl); clear S; intro bz wz S)
    | ((with_reducible apply wps_box1 (v := .string _) S); (case hx => rfl); (case h1 => rfl); clear S; intro bz wz S)
    | ((with_reducible apply wps_box1 (v := .func _ _ _) S); (case hx => rfl); (case h1 => rfl); clear S; intro bz wz S)
    | ((with_reducible apply wps_alloca (E := 28) S); (case hz => exact Tryd.zeroValue28); clear S; intro bz wz S)
    | ((with_reducible apply wps_loada (T := 28) (k := 4) S 0); (case hx => rfl); (case hi => rfl); (case hT => decide +kernel); (case hk => exact Nat.le_of_ble_eq_true rfl))
  (try simp only [Exit.inBlock, Exit.then]); refine bodyPost_ret (results2 rfl (res_tmp rfl) (res_tmp rfl)) rfl ?_
  rw [Hst.out, He.out]
  exact ⟨_, rfl, S.pick [1] rfl⟩
end Go.Proofs.YtfiiaechippboaaDoor
/- Plain: what a process makes of batches in two parts, and of events in another order. No program in sight. -/
namespace Go.Proofs.YtfiiaechippboaaDoor
open Go Go.RowKit Mem

theorem twice_not {l : List Event} (h : twiceB l = false) : (l.map (·.key)).Nodup := by
  unfold twiceB at h
  rw [Bool.not_eq_false', decide_eq_true_eq] at h
  exact h
theorem key_uniq {l : List Event} (h : (l.map (·.key)).Nodup) {x y : Event} (hx : x ∈ l) (hy : y ∈ l) (e : x.key = y.key) : x = y := by
  induction l with
  | nil => cases hx
  | cons a l ih =>
    rw [List.map_cons, List.nodup_cons] at h
    rcases List.mem_cons.1 hx with hx | hx <;> rcases List.mem_cons.1 hy with hy | hy
    · rw [hx, hy]
    · exact absurd (List.mem_map.2 ⟨y, hy, by rw [← e, hx]⟩) h.1
    · exact absurd (List.mem_map.2 ⟨x, hx, by rw [e, hy]⟩) h.1
    · exact ih h.2 hx hy
/-- Where no two keys are one there is one order alone. -/
theorem sort_one {l m : List Event} (hl : twiceB l = false) (hp : m.Perm l) (hm : m.Pairwise (fun x y => y.key.lt x.key = false)) : m = sortE l := by
  refine List.Perm.eq_of_pairwise (le := fun x y => y.key.lt x.key = false) (fun a b ha hb h1 h2 => ?_) hm (sortE_up l) (hp.trans (sortE_perm l).symm)
  exact key_uniq (twice_not hl) (hp.mem_iff.1 ha) ((sortE_perm l).mem_iff.1 hb) (Key.eq_of h2 h1)
theorem sort_perm {l m : List Event} (hl : twiceB l = false) (hp : m.Perm l) : sortE m = sortE l := sort_one hl ((sortE_perm m).trans hp) (sortE_up m)
theorem lt_at {x y : Event} (h : x.key.at_ < y.key.at_) : y.key.lt x.key = false := Key.lt_asymm' ((Key.lt_iff _ _).2 (.inl h))
def isEarly (t : Int) (x : Event) : Bool := decide (x.key.at_ < t)
def earlyE (t : Int) (l : List Event) : List Event := l.filter (isEarly t)
def lateE (t : Int) (l : List Event) : List Event := l.filter (fun x => !isEarly t x)
theorem mem_early {t : Int} {l : List Event} {x : Event} : x ∈ earlyE t l ↔ x ∈ l ∧ x.key.at_ < t := by unfold earlyE isEarly; simp
theorem mem_late {t : Int} {l : List Event} {x : Event} : x ∈ lateE t l ↔ x ∈ l ∧ t ≤ x.key.at_ := by unfold lateE isEarly; simp
theorem parts_perm (t : Int) (l : List Event) : (earlyE t l ++ lateE t l).Perm l := List.filter_append_perm _ _
theorem early_sub (t : Int) (l : List Event) : (earlyE t l).Sublist l := List.filter_sublist
theorem late_sub (t : Int) (l : List Event) : (lateE t l).Sublist l := List.filter_sublist
theorem sort_parts {l : List Event} (t : Int) (hl : twiceB l = false) : sortE l = sortE (earlyE t l) ++ sortE (lateE t l) := by
  symm
  refine sort_one hl (((sortE_perm _).append (sortE_perm _)).trans (parts_perm t l)) ?_
  rw [List.pairwise_append]
  refine ⟨sortE_up _, sortE_up _, fun a ha b hb => lt_at ?_⟩
  have h1 := (mem_early.1 ((sortE_perm _).mem_iff.1 ha)).2
  have h2 := (mem_late.1 ((sortE_perm _).mem_iff.1 hb)).2
  omega
theorem tw_app {p : Event → Bool} {b : List Event} (hb : ∀ x ∈ b, p x = false) : ∀ a : List Event, (a ++ b).takeWhile p = a.takeWhile p ∧ (a ++ b).dropWhile p = a.dropWhile p ++ b
  | [] => by
    cases b with
    | nil => simp
    | cons y b => have := hb y (by simp); simp [this]
  | x :: a => by
    have ih := tw_app hb a
    cases hx : p x with
    | true => simp [hx, ih.1, ih.2]
    | false => simp [hx]
theorem batches_app (t : Int) {b : List Event} (hb : ∀ x ∈ b, t ≤ x.key.at_) : ∀ (n : Nat) (a : List Event), a.length ≤ n → (∀ x ∈ a, x.key.at_ < t) → batchesE (a ++ b) = batchesE a ++ batchesE b
  | _, [], _, _ => by rw [batchesE]; rfl
  | 0, _ :: _, h, _ => by simp at h
  | n + 1, x :: a, h, ha => by
    have hx := ha x (by simp)
    have hp : ∀ y ∈ b, (y.key.at_ == x.key.at_) = false := fun y hy => by have := hb y hy; simp; omega
    have tw := tw_app hp a
    have hd : (a.dropWhile (fun y => y.key.at_ == x.key.at_)).length ≤ a.length := (List.dropWhile_sublist _).length_le
    rw [List.cons_append, batchesE, batchesE, tw.1, tw.2, batches_app t hb n _ (by simp at h; omega) (fun y hy => ha y (List.mem_cons_of_mem _ ((List.dropWhile_sublist _).subset hy))), List.cons_append]
theorem steps_out (c : Cfg) (lp : Int) : ∀ (gs : List (List Event)) (s : State) (o : List Event), gs.foldl (stepM c lp) (s, o) = ((gs.foldl (stepM c lp) (s, [])).1, o ++ (gs.foldl (stepM c lp) (s, [])).2)
  | [], s, o => by simp
  | g :: gs, s, o => by
    have e : ∀ o, stepM c lp (s, o) g = ((batchC c lp s g).1, o ++ (batchC c lp s g).2) := fun _ => rfl
    rw [List.foldl_cons, List.foldl_cons, e, e, steps_out c lp gs _ (o ++ _), steps_out c lp gs _ ([] ++ _)]
    simp
/-- Batches in two parts, the first of which is earlier. -/
theorem many_parts {c : Cfg} {lp : Int} {s : State} {l : List Event} (t : Int) (hl : twiceB l = false) :
    manyE c lp s l = ((manyE c lp (manyE c lp s (earlyE t l)).1 (lateE t l)).1, (manyE c lp s (earlyE t l)).2 ++ (manyE c lp (manyE c lp s (earlyE t l)).1 (lateE t l)).2) := by
  unfold manyE
  rw [sort_parts t hl, batches_app t (fun x hx => (mem_late.1 ((sortE_perm _).mem_iff.1 hx)).2) _ _ (Nat.le_refl _) (fun x hx => (mem_early.1 ((sortE_perm _).mem_iff.1 hx)).2), List.foldl_append]
  exact steps_out c lp _ _ _
theorem alone_ok {n : Nat} {lp : Int} {l : List Event} : aloneE n lp l = 0 ↔ (0 ≤ lp ∧ lp < n) ∧ (∀ x ∈ l, x.dst = lp) ∧ twiceB l = false := by
  unfold aloneE
  constructor
  · intro h
    split at h
    · cases h
    · split at h
      · cases h
      · rename_i k1 k2
        split at h
        · cases h
        · rename_i k3; exact ⟨by omega, Decidable.not_not.1 k2, by simpa using k3⟩
  · rintro ⟨h1, h2, h3⟩
    rw [if_neg (by omega), if_neg (fun g => g h2), if_neg (by rw [h3]; simp)]
theorem twice_sub {l m : List Event} (h : m.Sublist l) (hl : twiceB l = false) : twiceB m = false := by
  have := twice_not hl
  unfold twiceB
  rw [Bool.not_eq_false', decide_eq_true_eq]
  exact this.sublist (h.map _)
theorem alone_sub {n : Nat} {lp : Int} {l m : List Event} (h : m.Sublist l) (hl : aloneE n lp l = 0) : aloneE n lp m = 0 := by
  obtain ⟨h1, h2, h3⟩ := alone_ok.1 hl
  exact alone_ok.2 ⟨h1, fun x hx => h2 x (h.subset hx), twice_sub h h3⟩
theorem alone_perm {n : Nat} {lp : Int} {l m : List Event} (h : m.Perm l) : aloneE n lp m = aloneE n lp l := by
  unfold aloneE
  have e : (∀ x ∈ m, x.dst = lp) ↔ (∀ x ∈ l, x.dst = lp) := ⟨fun g x hx => g x (h.mem_iff.2 hx), fun g x hx => g x (h.mem_iff.1 hx)⟩
  rw [twice_perm h]
  simp only [e]
theorem many_perm {c : Cfg} {lp : Int} {s : State} {l m : List Event} (h : m.Perm l) : manyC c lp s m = manyC c lp s l := by
  unfold manyC
  rw [alone_perm h]
  split
  · rename_i h0
    unfold manyE
    rw [sort_perm (alone_ok.1 h0).2.2 h]
  · rfl
theorem manyC_parts {c : Cfg} {lp : Int} {s : State} {l : List Event} (t : Int) (h0 : aloneE c.lps.length lp l = 0) :
    manyC c lp s l = ((manyC c lp (manyC c lp s (earlyE t l)).1 (lateE t l)).1, (manyC c lp s (earlyE t l)).2 ++ (manyC c lp (manyC c lp s (earlyE t l)).1 (lateE t l)).2) := by
  have h1 := alone_sub (early_sub t l) h0
  have h2 := alone_sub (late_sub t l) h0
  unfold manyC
  rw [if_pos h0, if_pos h1, if_pos h2]
  exact many_parts t (alone_ok.1 h0).2.2
theorem manyC_err {c : Cfg} {lp : Int} {s : State} {l : List Event} (h0 : aloneE c.lps.length lp l ≠ 0) : manyC c lp s l = (⟨0, 0, 0, 0⟩, []) := if_neg h0
theorem steps_len {c : Cfg} (h : CfgFine c) (lp : Int) (n : Nat) : ∀ (gs : List (List Event)) (s : State), (∀ g ∈ gs, g.length ≤ n) → (gs.foldl (stepM c lp) (s, [])).2.length ≤ gs.length * (8 * n)
  | [], s, _ => by simp
  | g :: gs, s, hg => by
    have ih := steps_len h lp n gs (batchC c lp s g).1 (fun x hx => hg x (List.mem_cons_of_mem _ hx))
    have h1 := batchC_len h lp s g
    have h2 := hg g (by simp)
    have e : stepM c lp (s, []) g = ((batchC c lp s g).1, [] ++ (batchC c lp s g).2) := rfl
    rw [List.foldl_cons, e, steps_out, List.length_cons, Nat.add_mul, Nat.one_mul]
    simp only [List.nil_append, List.length_append]
    omega
theorem manyC_len {c : Cfg} (h : CfgFine c) (lp : Int) (s : State) (l : List Event) : (manyC c lp s l).2.length ≤ l.length * (8 * l.length) := by
  unfold manyC
  split
  · unfold manyE
    have hg : ∀ g ∈ batchesE (sortE l), g.length ≤ l.length := fun g hg => by
      have := (batches_mem _ (sortE l) (Nat.le_refl _) g hg).2.1.length_le
      rwa [sortE_len] at this
    have hn : (batchesE (sortE l)).length ≤ l.length := by
      cases hb : batchesE (sortE l) with
      | nil => exact Nat.zero_le _
      | cons g gs =>
        have := (batches_mem _ (sortE l) (Nat.le_refl _) g (by rw [hb]; simp)).2.2.2
        rw [sortE_len, hb] at this
        exact this
    exact Nat.le_trans (steps_len h lp l.length _ s hg) (Nat.mul_le_mul_right _ hn)
  · simp
theorem early_push {t : Int} {l : List Event} {j : Nat} {x : Event} (hx : l[j]? = some x) : earlyE t (l.take (j + 1)) = if x.key.at_ < t then earlyE t (l.take j) ++ [x] else earlyE t (l.take j) := by
  unfold earlyE
  rw [List.take_add_one, hx, Option.toList_some, List.filter_append]
  split
  · rename_i h; simp [isEarly, h]
  · rename_i h; simp [isEarly, h]
theorem late_push {t : Int} {l : List Event} {j : Nat} {x : Event} (hx : l[j]? = some x) : lateE t (l.take (j + 1)) = if x.key.at_ < t then lateE t (l.take j) else lateE t (l.take j) ++ [x] := by
  unfold lateE
  rw [List.take_add_one, hx, Option.toList_some, List.filter_append]
  split
  · rename_i h; simp [isEarly, h]
  · rename_i h; simp [isEarly, h]
theorem rev_push {l : List Event} {i : Nat} {x : Event} (h : l[i]? = some x) : (l.drop i).reverse = (l.drop (i + 1)).reverse ++ [x] := by
  have hi := (List.getElem?_eq_some_iff.1 h).1
  rw [List.drop_eq_getElem_cons hi, List.reverse_cons]
  rw [(List.getElem?_eq_some_iff.1 h).2]
end Go.Proofs.YtfiiaechippboaaDoor
/- A configuration out of its parts. -/
namespace Go.Proofs.YtfiiaechippboaaDoor
open Go Go.RowKit Reg Mem

theorem cfg_any {vP vL vS : Value} {hs : List Value} {c : Cfg} {w : World} {F1 F2 F3 F4 : Nat → Prop} (h1 : (Sl true vcell 1 vP hs).at_ w F1) (h2 : (Sl true Place.cells 5 vL c.lps).at_ w F2) (h3 : (Sl true Start.cells 4 vS c.starts).at_ w F3) (h4 : (Sls true Instr.cells 5 hs c.programs).at_ w F4) :
    (CfgA true [vP, vL, vS, .int .i64 c.fin, .int .i64 c.fuel, .int .i64 c.fan] hs c).at_ w (fun b => b < w.heap.size) :=
  ⟨⟨⟨vP, vL, vS, rfl, h1.1.mono h1.2, h2.1.mono h2.2, h3.1.mono h3.2⟩, h4.1.mono h4.2⟩, fun _ h => h⟩
theorem sls_one {α : Type} {enc : α → List Value} {k : Nat} {v : Value} {xs : List α} {w : World} {F : Nat → Prop} (h : (Sl true enc k v xs).at_ w F) : (Sls true enc k [v] [xs]).at_ w F :=
  ⟨⟨rfl, fun i u ys hu hy => by
    cases i with
    | zero => simp at hu hy; subst hu; subst hy; exact h.1
    | succ i => simp at hu⟩, h.2⟩
end Go.Proofs.YtfiiaechippboaaDoor
/- The walks of keys.Of, keys.Check and the law's Events (as in K1, K8, L6), for a seat that has these alone. -/
namespace Go.Proofs.YtfiiaechippboaaDoor
open Go Go.RowKit Reg Mem

theorem ev_nceqs (a b : Event) : (!ceqs a.cells b.cells) = !decide (a = b) := by
  congr 1
  obtain ⟨⟨a1, a2, a3, a4⟩, a5, a6, a7⟩ := a; obtain ⟨⟨b1, b2, b3, b4⟩, b5, b6, b7⟩ := b
  simp only [Event.cells, ceqs, ceq, Bool.and_true, Event.mk.injEq, Key.mk.injEq]
  rw [Bool.eq_iff_iff]; simp [and_assoc]
def chk (e : Event) : Int :=
  if e.key.src < -1 ∨ 32 ≤ e.key.src ∨ e.dst < 0 ∨ 32 ≤ e.dst ∨ e.key.no < 0 ∨ 1024 ≤ e.key.no ∨ e.key.at_ < 0 ∨ 1073741824 < e.key.at_ then 10
  else if e.key.sent < -1 ∨ e.key.at_ ≤ e.key.sent then 18 else 0
def EvEqRel (v1 v2 : Value) (xs ys : List Event) (w : World) (i : Value) (wr : World) : Prop :=
  ∃ j : Nat, j ≤ xs.length ∧ i = .int .i64 j ∧ (∀ q : Nat, q < j → xs[q]? = ys[q]?) ∧ St (fun _ => False) w wr [Sl true Event.cells 7 v2 ys, Sl true Event.cells 7 v1 xs]
set_option maxRecDepth 100000 in
set_option maxHeartbeats 4000000 in
theorem evseq_calls (v1 v2 : Value) (xs ys : List Event) (w : World) (F1 F2 : Nat → Prop) (h1 : (Sl true Event.cells 7 v1 xs).at_ w F1) (h2 : (Sl true Event.cells 7 v2 ys).at_ w F2) (hn : xs.length ≤ 65536) (hn2 : ys.length ≤ 65536) :
    Calls Tryd.prog 16 #[v1, v2] w fun r w' => r = .returned (.bool (decide (xs = ys))) ∧ Below w.heap.size w w' := by
  have S : St (fun _ => False) w w [Sl true Event.cells 7 v2 ys, Sl true Event.cells 7 v1 xs] := ((St.init _ w).share rfl rfl h1).share rfl rfl h2
  obtain ⟨ad2, c2, rfl, _⟩ := (S.sl 0 rfl).elim fun _ h => h.form
  obtain ⟨ad1, c1, rfl, _⟩ := (S.sl 1 rfl).elim fun _ h => h.form
  clear h1 h2
  by_cases hl : xs.length = ys.length
  · have hl2 : (xs.length : Int) = ys.length := by omega
    have HL := Lib.hid hl
    clear hl
    go_enter Tryd.func16, Tryd.ntmps16
    go_wp2_with first
      | ((with_reducible refine tot_done ?ht ?_); (case ht => kernel_rfl))
      | ((with_reducible apply wps_text S); (case hm => kernel_rfl); (case hB => decide +kernel); clear S; intro wz S)
      | ((with_reducible apply wps_loada (T := 54) (k := 7) S 0); (case hx => rfl); (case hi => rfl); (case hT => decide +kernel); (case hk => exact Nat.le_of_ble_eq_true rfl))
      | ((with_reducible apply wps_loada (T := 54) (k := 7) S 1); (case hx => rfl); (case hi => rfl); (case hT => decide +kernel); (case hk => exact Nat.le_of_ble_eq_true rfl))
      | ((with_reducible apply wps_loada (T := 54) (k := 7) S 2); (case hx => rfl); (case hi => rfl); (case hT => decide +kernel); (case hk => exact Nat.le_of_ble_eq_true rfl))
      | ((with_reducible apply wps_loada (T := 54) (k := 7) S 3); (case hx => rfl); (case hi => rfl); (case hT => decide +kernel); (case hk => exact Nat.le_of_ble_eq_true rfl))
    go_loopw [5] (fun i wr => EvEqRel (.slice ad1 xs.length c1) (.slice ad2 ys.length c2) xs ys w i wr) (fun i _ => xs.length - (intOf i).toNat)
    case atStart => exact ⟨0, Nat.zero_le _, rfl, fun q h => by omega, S⟩
    case round =>
      clear S
      obtain ⟨j, hj, rfl, he, S⟩ := hrel
      have He := Lib.hid he
      clear he
      by_cases hlt : j < xs.length
      · obtain ⟨x, hx⟩ : ∃ x, xs[j]? = some x := ⟨_, List.getElem?_eq_getElem hlt⟩
        obtain ⟨y, hy⟩ : ∃ y, ys[j]? = some y := ⟨_, List.getElem?_eq_getElem (by have := HL.out; omega)⟩
        obtain ⟨R1, o1, rfl⟩ : ∃ R o, ad1 = some ⟨R, o, none⟩ := (S.sl 1 rfl).elim fun F h => h.head (by omega)
        obtain ⟨R2, o2, rfl⟩ : ∃ R o, ad2 = some ⟨R, o, none⟩ := (S.sl 0 rfl).elim fun F h => h.head (by have := HL.out; omega)
        have hlt2 : (j : Int) < xs.length := by omega
        have hlt3 : (j : Int) < ys.length := by omega
        have hlt4 : j < ys.length := by omega
        by_cases hxy : x = y
        · have HN := Lib.hid ((ev_nceqs x y).trans (show _ = false by simp [hxy]))
          have HXY := Lib.hid hxy
          clear hxy
          have Hx := Lib.hid hx
          have Hy := Lib.hid hy
          clear hx hy
          go_wp2_with first
            | ((with_reducible apply wps_loada_el S 1 (hj := Hx.out) (q := 0) (vs := [.int .i64 x.key.at_, .int .i64 x.key.src, .int .i64 x.key.sent, .int .i64 x.key.no, .int .i64 x.dst, .int .i64 x.kind, .int .i64 x.data]) (m := 7)); (case hx => rfl); (case hT => decide +kernel); (case hi => rfl); (case hn => omega); (case hm => rfl); (case hv => rfl))
            | ((with_reducible apply wps_loada_el S 0 (hj := Hy.out) (q := 0) (vs := [.int .i64 y.key.at_, .int .i64 y.key.src, .int .i64 y.key.sent, .int .i64 y.key.no, .int .i64 y.dst, .int .i64 y.kind, .int .i64 y.data]) (m := 7)); (case hx => rfl); (case hT => decide +kernel); (case hi => rfl); (case hn => omega); (case hm => rfl); (case hv => rfl))
            | ((with_reducible apply wpList_neq_agg (t := 54) (ks := [.int .i64, .int .i64, .int .i64, .int .i64, .int .i64, .int .i64, .int .i64]) (b := _)); (case hx => rfl); (case hy => rfl); (case hl => kernel_rfl); (case ha => kernel_rfl); (case hg => kernel_rfl); (case hfx => rfl); (case hfy => rfl); (case hb => exact HN.out))
            | ((with_reducible refine tot_done ?ht ?_); (case ht => kernel_rfl))
            | ((with_reducible apply wps_text S); (case hm => kernel_rfl); (case hB => decide +kernel); clear S; intro wz S)
            | ((with_reducible apply wps_loada (T := 54) (k := 7) S 0); (case hx => rfl); (case hi => rfl); (case hT => decide +kernel); (case hk => exact Nat.le_of_ble_eq_true rfl))
            | ((with_reducible apply wps_loada (T := 54) (k := 7) S 1); (case hx => rfl); (case hi => rfl); (case hT => decide +kernel); (case hk => exact Nat.le_of_ble_eq_true rfl))
            | ((with_reducible apply wps_loada (T := 54) (k := 7) S 2); (case hx => rfl); (case hi => rfl); (case hT => decide +kernel); (case hk => exact Nat.le_of_ble_eq_true rfl))
            | ((with_reducible apply wps_loada (T := 54) (k := 7) S 3); (case hx => rfl); (case hi => rfl); (case hT => decide +kernel); (case hk => exact Nat.le_of_ble_eq_true rfl))
          go_roundw
          case rel =>
            refine ⟨j + 1, by omega, by go_num, fun q hq => ?_, S⟩
            by_cases e : q = j
            · subst e; rw [Hx.out, Hy.out, HXY.out]
            · exact He.out q (by omega)
          case measure => simp [intOf]; omega
        · have HN := Lib.hid ((ev_nceqs x y).trans (show _ = true by simp [hxy]))
          have HXY := Lib.hid hxy
          clear hxy
          have Hx := Lib.hid hx
          have Hy := Lib.hid hy
          clear hx hy
          go_wp2_with first
            | ((with_reducible apply wps_loada_el S 1 (hj := Hx.out) (q := 0) (vs := [.int .i64 x.key.at_, .int .i64 x.key.src, .int .i64 x.key.sent, .int .i64 x.key.no, .int .i64 x.dst, .int .i64 x.kind, .int .i64 x.data]) (m := 7)); (case hx => rfl); (case hT => decide +kernel); (case hi => rfl); (case hn => omega); (case hm => rfl); (case hv => rfl))
            | ((with_reducible apply wps_loada_el S 0 (hj := Hy.out) (q := 0) (vs := [.int .i64 y.key.at_, .int .i64 y.key.src, .int .i64 y.key.sent, .int .i64 y.key.no, .int .i64 y.dst, .int .i64 y.kind, .int .i64 y.data]) (m := 7)); (case hx => rfl); (case hT => decide +kernel); (case hi => rfl); (case hn => omega); (case hm => rfl); (case hv => rfl))
            | ((with_reducible apply wpList_neq_agg (t := 54) (ks := [.int .i64, .int .i64, .int .i64, .int .i64, .int .i64, .int .i64, .int .i64]) (b := _)); (case hx => rfl); (case hy => rfl); (case hl => kernel_rfl); (case ha => kernel_rfl); (case hg => kernel_rfl); (case hfx => rfl); (case hfy => rfl); (case hb => exact HN.out))
            | ((with_reducible refine tot_done ?ht ?_); (case ht => kernel_rfl))
            | ((with_reducible apply wps_text S); (case hm => kernel_rfl); (case hB => decide +kernel); clear S; intro wz S)
            | ((with_reducible apply wps_loada (T := 54) (k := 7) S 0); (case hx => rfl); (case hi => rfl); (case hT => decide +kernel); (case hk => exact Nat.le_of_ble_eq_true rfl))
            | ((with_reducible apply wps_loada (T := 54) (k := 7) S 1); (case hx => rfl); (case hi => rfl); (case hT => decide +kernel); (case hk => exact Nat.le_of_ble_eq_true rfl))
            | ((with_reducible apply wps_loada (T := 54) (k := 7) S 2); (case hx => rfl); (case hi => rfl); (case hT => decide +kernel); (case hk => exact Nat.le_of_ble_eq_true rfl))
            | ((with_reducible apply wps_loada (T := 54) (k := 7) S 3); (case hx => rfl); (case hi => rfl); (case hT => decide +kernel); (case hk => exact Nat.le_of_ble_eq_true rfl))
          go_ret
          exact ⟨ret_bool (by symm; rw [decide_eq_false_iff_not]; rintro rfl; rw [Hx.out] at Hy; exact HXY.out (Option.some.inj Hy.out)), S.below⟩
      · obtain rfl : j = xs.length := by omega
        go_wp2_with first
          | ((with_reducible refine tot_done ?ht ?_); (case ht => kernel_rfl))
          | ((with_reducible apply wps_text S); (case hm => kernel_rfl); (case hB => decide +kernel); clear S; intro wz S)
          | ((with_reducible apply wps_loada (T := 54) (k := 7) S 0); (case hx => rfl); (case hi => rfl); (case hT => decide +kernel); (case hk => exact Nat.le_of_ble_eq_true rfl))
          | ((with_reducible apply wps_loada (T := 54) (k := 7) S 1); (case hx => rfl); (case hi => rfl); (case hT => decide +kernel); (case hk => exact Nat.le_of_ble_eq_true rfl))
          | ((with_reducible apply wps_loada (T := 54) (k := 7) S 2); (case hx => rfl); (case hi => rfl); (case hT => decide +kernel); (case hk => exact Nat.le_of_ble_eq_true rfl))
          | ((with_reducible apply wps_loada (T := 54) (k := 7) S 3); (case hx => rfl); (case hi => rfl); (case hT => decide +kernel); (case hk => exact Nat.le_of_ble_eq_true rfl))
        go_ret
        refine ⟨ret_bool ?_, S.below⟩
        symm
        rw [decide_eq_true_eq]
        refine List.ext_getElem? fun q => ?_
        by_cases hq : q < xs.length
        · exact He.out q hq
        · have := HL.out
          rw [List.getElem?_eq_none (by omega), List.getElem?_eq_none (by omega)]
  · have hl2 : ¬ (xs.length : Int) = ys.length := by omega
    have HL := Lib.hid hl
    clear hl
    go_enter Tryd.func16, Tryd.ntmps16
    go_wp2_with first
      | ((with_reducible refine tot_done ?ht ?_); (case ht => kernel_rfl))
      | ((with_reducible apply wps_text S); (case hm => kernel_rfl); (case hB => decide +kernel); clear S; intro wz S)
      | ((with_reducible apply wps_loada (T := 54) (k := 7) S 0); (case hx => rfl); (case hi => rfl); (case hT => decide +kernel); (case hk => exact Nat.le_of_ble_eq_true rfl))
      | ((with_reducible apply wps_loada (T := 54) (k := 7) S 1); (case hx => rfl); (case hi => rfl); (case hT => decide +kernel); (case hk => exact Nat.le_of_ble_eq_true rfl))
      | ((with_reducible apply wps_loada (T := 54) (k := 7) S 2); (case hx => rfl); (case hi => rfl); (case hT => decide +kernel); (case hk => exact Nat.le_of_ble_eq_true rfl))
      | ((with_reducible apply wps_loada (T := 54) (k := 7) S 3); (case hx => rfl); (case hi => rfl); (case hT => decide +kernel); (case hk => exact Nat.le_of_ble_eq_true rfl))
    go_ret
    exact ⟨ret_bool (by symm; rw [decide_eq_false_iff_not]; rintro rfl; exact HL.out rfl), S.below⟩
end Go.Proofs.YtfiiaechippboaaDoor
/- The walks of the law's Few and ModelEvents. -/
namespace Go.Proofs.YtfiiaechippboaaDoor
open Go Go.RowKit Reg Mem

def fewB (c : Cfg) : Bool := c.programs.all (fun p => decide (p.length ≤ 80)) && (decide (c.programs.length ≤ 40) && (decide (c.lps.length ≤ 40) && decide (c.starts.length ≤ 300)))
theorem few_iff {c : Cfg} : fewB c = true ↔ (∀ p ∈ c.programs, p.length ≤ 80) ∧ c.programs.length ≤ 40 ∧ c.lps.length ≤ 40 ∧ c.starts.length ≤ 300 := by
  simp [fewB]
def FewRel (bx : Nat) (cs : Array Value) (vP : Value) (hs : List Value) (ps : List (List Instr)) (w : World) (i : Value) (wr : World) : Prop :=
  ∃ j : Nat, j ≤ ps.length ∧ i = .int .i64 j ∧ Hid (∀ (q : Nat) y, q < j → ps[q]? = some y → y.length ≤ 80) ∧ St (fun _ => False) w wr [Blk false bx cs 26, Sls true Instr.cells 5 hs ps, Sl true vcell 1 vP hs]
set_option maxRecDepth 100000 in
set_option maxHeartbeats 4000000 in
theorem few_calls (vs hs : List Value) (c : Cfg) (w : World) (F : Nat → Prop) (h : (CfgA true vs hs c).at_ w F) (hw : Wide c) : Calls Tryd.prog 25 #[.agg vs.toArray] w fun r w' => r = .returned (.bool (fewB c)) ∧ Below w.heap.size w w' := by
  have S : St (fun _ => False) w w [CfgA true vs hs c] := (St.init _ w).share rfl rfl h
  obtain ⟨aP, cP, aL, cL, aS, cS, rfl, hlen, S⟩ := S.cfg 0 rfl
  replace S := S.pick [0, 1] rfl
  simp only [pick, nth] at S
  clear h
  have hp1 : c.programs.length ≤ 9223372036854775807 := Nat.le_trans hw.p (by decide)
  obtain ⟨ps, ls, ss, fin, fuel, fan⟩ := c
  clear hw
  simp only at *
  go_enter Tryd.func25, Tryd.ntmps25
  go_wp2_with first
    | go_skip
    | ((with_reducible refine wpList_skip ?hw ?_); (case hw => with_unfolding_all rfl); simp only [Act.put, List.setIfInBounds_toArray, List.set_cons_succ, List.set_cons_zero])
    | ((with_reducible apply wps_boxa S); (case hx => rfl); clear S; intro bx wz S)
    | ((with_reducible refine tot_done ?ht ?_); (case ht => kernel_rfl))
    | ((with_reducible apply wps_boxa S); (case hx => rfl); clear S; intro bz wz S)
    | ((with_reducible apply wps_box1 (v := .int _ _) S); (case hx => rfl); (case h1 => rfl); clear S; intro bz wz S)
    | ((with_reducible apply wps_box1 (v := .bool _) S); (case hx => rfl); (case h1 => rfl); clear S; intro bz wz S)
    | ((with_reducible apply wps_box1 (v := .slice _ _ _) S); (case hx => rfl); (case h1 => rfl); clear S; intro bz wz S)
    | ((with_reducible apply wps_box1 (v := .pointer _) S); (case hx => rfl); (case h1 => rfl); clear S; intro bz wz S)
    | ((with_reducible apply wps_box1 (v := .map _) S); (case hx => rfl); (case h1 => rfl); clear S; intro bz wz S)
    | ((with_reducible apply wps_box1 (v := .string _) S); (case hx => rfl); (case h1 => rfl); clear S; intro bz wz S)
    | ((with_reducible apply wps_box1 (v := .func _ _ _) S); (case hx => rfl); (case h1 => rfl); clear S; intro bz wz S)
    | ((with_reducible apply wps_load S 0); (case hx => rfl); (case hi => rfl); (case hT => decide +kernel); (case hu => rfl))
  go_loopw [3] (fun i wr => FewRel bx #[.slice aP ps.length cP, .slice aL ls.length cL, .slice aS ss.length cS, .int .i64 fin, .int .i64 fuel, .int .i64 fan] (.slice aP ps.length cP) hs ps w i wr) (fun i _ => ps.length - (intOf i).toNat)
  case atStart => exact ⟨0, Nat.zero_le _, rfl, fun q y h => by omega, S⟩
  case round =>
    clear S
    obtain ⟨j, hj, rfl, Hz, S⟩ := hrel
    by_cases hlt : j < ps.length
    · obtain ⟨p, hp⟩ : ∃ p, ps[j]? = some p := ⟨_, List.getElem?_eq_getElem hlt⟩
      obtain ⟨v, hv⟩ : ∃ v, hs[j]? = some v := ⟨_, List.getElem?_eq_getElem (by omega)⟩
      obtain ⟨R, o, rfl⟩ : ∃ R o, aP = some ⟨R, o, none⟩ := (S.sl 2 rfl).elim fun F h => h.head (by omega)
      have hlt2 : (j : Int) < ps.length := by omega
      obtain ⟨av, cv, rfl, _⟩ := (S.sls 1 rfl).elim fun F h => (h.2 j v p hv hp).form
      have Hp := Lib.hid hp
      have Hv := Lib.hid hv
      clear hp hv
      by_cases h8 : (80 : Int) < p.length
      · go_wp2_with first
          | go_skip
          | ((with_reducible refine wpList_skip ?hw ?_); (case hw => with_unfolding_all rfl); simp only [Act.put, List.setIfInBounds_toArray, List.set_cons_succ, List.set_cons_zero])
          | ((with_reducible apply wps_load_el S 2 (hj := Hv.out) (q := 0) (u := (.slice av p.length cv))); (case hx => rfl); (case hi => rfl); (case hn => omega); (case hT => decide +kernel); (case hu => rfl))
          | ((with_reducible refine tot_done ?ht ?_); (case ht => kernel_rfl))
          | ((with_reducible apply wps_load S 0); (case hx => rfl); (case hi => rfl); (case hT => decide +kernel); (case hu => rfl))
        go_ret
        refine ⟨ret_bool ?_, S.below⟩
        symm
        rw [Bool.eq_false_iff]
        intro h
        have := (few_iff.1 h).1 p (List.mem_of_getElem? Hp.out)
        omega
      · go_wp2_with first
          | go_skip
          | ((with_reducible refine wpList_skip ?hw ?_); (case hw => with_unfolding_all rfl); simp only [Act.put, List.setIfInBounds_toArray, List.set_cons_succ, List.set_cons_zero])
          | ((with_reducible apply wps_load_el S 2 (hj := Hv.out) (q := 0) (u := (.slice av p.length cv))); (case hx => rfl); (case hi => rfl); (case hn => omega); (case hT => decide +kernel); (case hu => rfl))
          | ((with_reducible refine tot_done ?ht ?_); (case ht => kernel_rfl))
          | ((with_reducible apply wps_load S 0); (case hx => rfl); (case hi => rfl); (case hT => decide +kernel); (case hu => rfl))
        go_roundw
        case rel => exact ⟨j + 1, by omega, by go_num, snoc_all Hz.out Hp.out (by omega), S⟩
        case measure => first | (simp [intOf]; done) | (simp [intOf]; omega)
    · obtain rfl : j = ps.length := by omega
      have HA : Hid ((ps.all fun p => decide (p.length ≤ 80)) = true) := by
        show _ = _
        rw [List.all_eq_true]; intro p hp; simpa using all_of Hz.out p hp
      by_cases k1 : (ps.length : Int) ≤ 40
      · by_cases k2 : (ls.length : Int) ≤ 40
        · go_wp2_with first
            | go_skip
            | ((with_reducible refine wpList_skip ?hw ?_); (case hw => with_unfolding_all rfl); simp only [Act.put, List.setIfInBounds_toArray, List.set_cons_succ, List.set_cons_zero])
            | ((with_reducible refine tot_done ?ht ?_); (case ht => kernel_rfl))
            | ((with_reducible apply wps_load S 0); (case hx => rfl); (case hi => rfl); (case hT => decide +kernel); (case hu => rfl))
          go_ret
          exact ⟨ret_bool (by simp only [fewB]; rw [HA.out, decide_eq_true (by omega : ps.length ≤ 40), decide_eq_true (by omega : ls.length ≤ 40)]; simp; try omega), S.below⟩
        · go_wp2_with first
            | go_skip
            | ((with_reducible refine wpList_skip ?hw ?_); (case hw => with_unfolding_all rfl); simp only [Act.put, List.setIfInBounds_toArray, List.set_cons_succ, List.set_cons_zero])
            | ((with_reducible refine tot_done ?ht ?_); (case ht => kernel_rfl))
            | ((with_reducible apply wps_load S 0); (case hx => rfl); (case hi => rfl); (case hT => decide +kernel); (case hu => rfl))
          go_ret
          exact ⟨ret_bool (by simp only [fewB]; rw [HA.out, decide_eq_false (by omega : ¬ ls.length ≤ 40)]; simp), S.below⟩
      · go_wp2_with first
          | go_skip
          | ((with_reducible refine wpList_skip ?hw ?_); (case hw => with_unfolding_all rfl); simp only [Act.put, List.setIfInBounds_toArray, List.set_cons_succ, List.set_cons_zero])
          | ((with_reducible refine tot_done ?ht ?_); (case ht => kernel_rfl))
          | ((with_reducible apply wps_load S 0); (case hx => rfl); (case hi => rfl); (case hT => decide +kernel); (case hu => rfl))
        go_ret
        exact ⟨ret_bool (by simp only [fewB]; rw [decide_eq_false (by omega : ¬ ps.length ≤ 40)]; simp), S.below⟩
end Go.Proofs.YtfiiaechippboaaDoor
/- Plain: the events that are there at first, in order. No program in sight. -/
namespace Go.Proofs.YtfiiaechippboaaDoor
open Go Go.RowKit Mem

def evsOf (c : Cfg) : List Event := sortE (startsFrom 0 c.starts)
/-- A configuration that may be. -/
structure CfgOk (c : Cfg) : Prop where
  sizes : sizesOk c
  starts : c.starts.length ≤ 256
  progs : ∀ p ∈ c.programs, codeE p = 0
  lps : ∀ p ∈ c.lps, 0 ≤ p.program ∧ p.program < c.programs.length
  dst : ∀ s ∈ c.starts, 0 ≤ s.dst ∧ s.dst < c.lps.length
  at_ : ∀ s ∈ c.starts, 0 ≤ s.at_ ∧ s.at_ ≤ c.fin
end Go.Proofs.YtfiiaechippboaaDoor
/- 's = append(s, e)' where the bytes are bounded. Over any program. -/
namespace Go.Proofs.YtfiiaechippboaaDoor.Mem
open Go Go.RowKit Reg
section
variable {P : Program} {ops : Array Oper} {rest : List Oper} {a : Act} {Q : Exit → Act → World → Prop} {d : Option Tmp} {tt : TypeId} {p : String} {af : Array Edge} {gd : Option (Nat × Bool)} {x y : Operand}
variable {G : Nat → Prop} {w0 w : World} {L : List Asn}
theorem wps_append1B {α : Type} {sh : Bool} {T E E' : TypeId} {enc : α → List Value} {k bytes b : Nat} {cs : Array Value} {v : Value} {xs : List α} (el : Elem P T E k bytes) (hk : ∀ x, (enc x).length = k) (hone : ∀ x, ∀ u ∈ enc x, u.oneCell' = true) (hb1 : 1 ≤ bytes)
    (S : St G w0 w L) (i : Nat) (hi : L[i]? = some (Own E enc k v xs)) (j : Nat) (hj : L[j]? = some (Blk sh b cs E')) (e : α) (hx : a.eval x = v) (hy : a.eval y = .slice (some ⟨b, 0, none⟩) 1 1) (he : enc e = cs.toList) (hl : (xs.length + 1) * bytes ≤ 140737488355328)
    (next : ∀ ad n c w', Hid (n = xs.length + 1) → St G w0 w' (L.set i (Own E enc k (.slice ad n c) (xs ++ [e]))) → wpList P ops Q rest (a.put d (.slice ad n c)) w') (hgd : gOk gd ops a = true := by with_unfolding_all rfl) :
    wpList P ops Q ({ dst := d, op := .call { callee := .builtin .append, args := #[x, y], argTypes := #[T, T] }, type := tt, pos := p, after := af, guard := gd } :: rest) a w := by
  have h2 : xs.length + 1 ≤ (xs.length + 1) * bytes := Nat.le_mul_of_pos_right _ hb1
  exact wps_append (hgd := hgd) el hk hone S i hi (blk_rd [e] 1 (S.blk j hj) (by simpa [flatE] using he) rfl) (by simp [maxLen]; omega) (by simp; omega) hx hy fun v' w' S' => by
    have hl' : i < L.length := (List.getElem?_eq_some_iff.1 hi).1
    obtain ⟨F, h⟩ := S'.get (i := i) (List.getElem?_set_self hl')
    obtain ⟨ad, c, rfl⟩ := h.1.form
    exact next _ _ _ _ (by simp [Hid]) S'
end
end Go.Proofs.YtfiiaechippboaaDoor.Mem
/- The walks of boomeranglaw05.Plain and the law's same. -/
namespace Go.Proofs.YtfiiaechippboaaDoor
open Go Go.RowKit Reg Mem

set_option maxRecDepth 100000 in
theorem elem_RIn : Elem Tryd.prog 86 123 5 40 := ⟨_, .agg #[.int .i64 0, .int .i64 0, .int .i64 0, .int .i64 0, .int .i64 0], Tryd.underlying86, rfl, by kernel_rfl, by kernel_rfl, by kernel_rfl, by kernel_rfl, by omega⟩
def PlRel (v out : Value) (p : List Instr) (w : World) (i : Value) (wr : World) : Prop :=
  ∃ j : Nat, j ≤ p.length ∧ i = .int .i64 j ∧ St (fun _ => False) w wr [Own 123 Instr.cells 5 out (p.take j), Sl true Instr.cells 5 v p]
/-- What Plain leaves. -/
def PlainPost (p : List Instr) (w : World) (e : Ending) (w' : World) : Prop :=
  ∃ ad c, e = .returned (.slice ad p.length c) ∧ St (fun _ => False) w w' [Own 123 Instr.cells 5 (.slice ad p.length c) p]
set_option maxRecDepth 100000 in
set_option maxHeartbeats 4000000 in
theorem lplain_calls (v : Value) (p : List Instr) (w : World) (F : Nat → Prop) (h : (Sl true Instr.cells 5 v p).at_ w F) (hn : p.length * 40 ≤ 140737488351232) : Calls Tryd.prog 41 #[v] w (PlainPost p w) := by
  have S : St (fun _ => False) w w [Sl true Instr.cells 5 v p] := (St.init _ w).share rfl rfl h
  obtain ⟨ad, cp, rfl, _⟩ := (S.sl 0 rfl).elim fun _ h => h.form
  clear h
  replace S := S.nil 123 Instr.cells 5
  go_enter Tryd.func41, Tryd.ntmps41
  go_wp2_with first
    | ((with_reducible refine tot_done ?ht ?_); (case ht => kernel_rfl))
    | ((with_reducible apply wps_text S); (case hm => kernel_rfl); (case hB => decide +kernel); clear S; intro wz S)
    | ((with_reducible apply wps_load S 0); (case hx => rfl); (case hi => rfl); (case hT => decide +kernel); (case hu => rfl))
  go_loopw [3, 4] (fun out i wr => PlRel (.slice ad p.length cp) out p w i wr) (fun _ i _ => p.length - (intOf i).toNat)
  case atStart => exact ⟨0, Nat.zero_le _, rfl, S⟩
  case round =>
    clear S
    obtain ⟨j, hj, rfl, S⟩ := hrel
    obtain ⟨F0, hF0⟩ := S.get (i := 0) rfl
    obtain ⟨ad0, c0, rfl⟩ := hF0.1.form
    clear hF0
    by_cases hlt : j < p.length
    · obtain ⟨x, hx⟩ : ∃ x, p[j]? = some x := ⟨_, List.getElem?_eq_getElem hlt⟩
      obtain ⟨R, o, rfl⟩ : ∃ R o, ad = some ⟨R, o, none⟩ := (S.sl 1 rfl).elim fun F h => h.head (by omega)
      have hlt2 : (j : Int) < p.length := by omega
      have HT : Hid (p.take (j + 1) = p.take j ++ [x]) := by show _ = _; rw [List.take_add_one, hx]; rfl
      have htl : ((p.take j).length + 1) * 40 ≤ 140737488355328 := by rw [List.length_take, Nat.min_eq_left hj]; omega
      have hlj : (p.take j).length = j := by simp; omega
      rw [hlj] at S
      rw [hlj]
      have Hx := Lib.hid hx
      have Hlj := Lib.hid hlj
      clear hx hlj
      go_wp2_with first
        | ((with_reducible refine tot_done ?ht ?_); (case ht => kernel_rfl))
        | ((with_reducible apply wps_load S 0); (case hx => rfl); (case hi => rfl); (case hT => decide +kernel); (case hu => rfl))
      replace S := S.pick [1, 0] rfl
      simp only [pick, nth] at S
      (refine wp_region_wt (soft := [0, 1, 2, 3, 4, 5, 6, 7, 8, 9, 10, 11, 12, 13, 14, 15, 16, 17, 18, 19, 20, 21, 22, 23, 24, 25, 26]) (L := [_]) (T := [_]) S ?hm ?hB ?_); (case hm => kernel_rfl); (case hB => decide +kernel); clear S
      iterate 27
        (with_reducible apply softs_cons)
        (case hw =>
          (with_reducible apply soft_of); (case hi => rfl)
          intro T wz S
          simp only [List.cons_append, List.nil_append] at S
          go_wp2_with first
            | ((with_reducible apply wps_load_el S 0 (hj := Hx.out) (q := 0) (u := .int .i64 x.op)); (case hx => rfl); (case hi => rfl); (case hn => omega); (case hT => decide +kernel); (case hu => rfl))
            | ((with_reducible apply wps_load_el S 0 (hj := Hx.out) (q := 1) (u := .int .i64 x.a)); (case hx => rfl); (case hi => rfl); (case hn => omega); (case hT => decide +kernel); (case hu => rfl))
            | ((with_reducible apply wps_load_el S 0 (hj := Hx.out) (q := 2) (u := .int .i64 x.b)); (case hx => rfl); (case hi => rfl); (case hn => omega); (case hT => decide +kernel); (case hu => rfl))
            | ((with_reducible apply wps_load_el S 0 (hj := Hx.out) (q := 3) (u := .int .i64 x.c)); (case hx => rfl); (case hi => rfl); (case hn => omega); (case hT => decide +kernel); (case hu => rfl))
            | ((with_reducible apply wps_load_el S 0 (hj := Hx.out) (q := 4) (u := .int .i64 x.d)); (case hx => rfl); (case hi => rfl); (case hn => omega); (case hT => decide +kernel); (case hu => rfl))
            | ((with_reducible refine tot_done ?ht ?_); (case ht => kernel_rfl))
            | ((with_reducible apply wps_load S 0); (case hx => rfl); (case hi => rfl); (case hT => decide +kernel); (case hu => rfl))
          exact ⟨rfl, S⟩)
        (case hs => exact ⟨_, rfl, by kernel_rfl⟩)
      refine softs_nil ?_
      (with_reducible apply W_hard1 (i := 27)); (case hn => rfl); (case hr => decide +kernel)
      intro wz S
      (with_reducible apply hard_of); (case hi => rfl)
      simp only [List.cons_append, List.nil_append] at S
      go_wp2_with first
        | ((with_reducible refine tot_done ?ht ?_); (case ht => kernel_rfl))
        | ((with_reducible apply wps_build1a (T := 86) (E := 123) S); (case hx => rfl); (case hr => intro w; kernel_rfl); clear S; intro bz wz S)
      refine ⟨_, S.pick [1, 2, 0] rfl, ?_⟩
      (with_reducible apply W_hard1 (i := 28)); (case hn => rfl); (case hr => decide +kernel)
      clear S
      intro wz S
      (with_reducible apply hard_of); (case hi => rfl)
      simp only [List.cons_append, List.nil_append] at S
      try simp only [pick, nth] at S
      (with_reducible apply wps_append1B elem_RIn incells inone (by decide) S 1 (j := 2) (e := x))
      (case hi => rfl)
      (case hj => rfl)
      (case he => rfl)
      (case hl => first | omega | (simp; omega))
      (case hx => rfl)
      (case hy => rfl)
      clear S
      intro az nz cz wz hnz S
      simp only [List.set_cons_succ, List.set_cons_zero] at S
      go_wp2_with first
        | ((with_reducible refine tot_done ?ht ?_); (case ht => kernel_rfl))
      refine ⟨_, S, ?_⟩
      (with_reducible apply W_hard1 (i := 29)); (case hn => rfl); (case hr => decide +kernel)
      clear S
      intro wz S
      (with_reducible apply hard_of); (case hi => rfl)
      go_wp2_with first
        | ((with_reducible refine tot_done ?ht ?_); (case ht => kernel_rfl))
      refine ⟨_, S, ?_⟩
      (with_reducible apply W_done); (case hn => rfl); (case hr => decide +kernel)
      clear S
      intro wz S
      simp only [List.cons_append, List.nil_append] at S
      try simp only [pick, nth] at S
      go_wp2_with first
        | ((with_reducible refine tot_done ?ht ?_); (case ht => kernel_rfl))
        | ((with_reducible apply wps_text S); (case hm => kernel_rfl); (case hB => decide +kernel); clear S; intro wz S)
        | ((with_reducible apply wps_load S 0); (case hx => rfl); (case hi => rfl); (case hT => decide +kernel); (case hu => rfl))
      go_roundw
      case rel => exact ⟨j + 1, by omega, by go_num, by rw [HT.out]; exact S.pick [1, 0] rfl⟩
      case measure => first | (simp [intOf]; done) | (simp [intOf]; omega)
    · obtain rfl : j = p.length := by omega
      rw [List.take_length] at S
      rw [List.take_length]
      go_wp2_with first
        | ((with_reducible refine tot_done ?ht ?_); (case ht => kernel_rfl))
        | ((with_reducible apply wps_text S); (case hm => kernel_rfl); (case hB => decide +kernel); clear S; intro wz S)
        | ((with_reducible apply wps_load S 0); (case hx => rfl); (case hi => rfl); (case hT => decide +kernel); (case hu => rfl))
      go_ret
      exact ⟨_, _, rfl, S.pick [0] rfl⟩
end Go.Proofs.YtfiiaechippboaaDoor
/- Slices that are owned and written, of which only their room is known; and several owned slices at once. Over any program. -/
namespace Go.Proofs.YtfiiaechippboaaDoor.Mem
open Go Go.RowKit Reg

/-- Each of these has its room in blocks of its own. -/
def RoomAt (k : Nat) (w : World) (F : Nat → Prop) (vs : List Value) : Prop :=
  ∀ (i : Nat) v, vs[i]? = some v → ∃ ad n c, v = .slice ad n c ∧ (0 < n → ∃ R cs t, ad = some ⟨R, 0, none⟩ ∧ F R ∧ w.heap[R]? = some (.cells cs t (0, 0)) ∧ n * k ≤ cs.size)
def Room (k : Nat) (vs : List Value) : Asn where
  sh := false
  at_ w F := RoomAt k w F vs ∧ ∀ b, F b → b < w.heap.size
  loc h hb := ⟨fun i v hi => by
    obtain ⟨ad, n, c, e, h2⟩ := h.1 i v hi
    refine ⟨ad, n, c, e, fun h0 => ?_⟩
    obtain ⟨R, cs, t, e1, h3, h4, h5⟩ := h2 h0
    exact ⟨R, cs, t, e1, h3, (hb R h3).trans h4, h5⟩, lt_loc h.2 hb⟩
  lt h := h.2
/-- Several slices that are owned. -/
def Ows {α : Type} (E : TypeId) (enc : α → List Value) (k : Nat) (vs : List Value) (xss : List (List α)) : Asn where
  sh := false
  at_ w F := (vs.length = xss.length ∧ ∀ (i : Nat) v xs, vs[i]? = some v → xss[i]? = some xs → ∃ Fi, (Own E enc k v xs).at_ w Fi ∧ ∀ b, Fi b → F b) ∧ ∀ b, F b → b < w.heap.size
  loc h hb := ⟨⟨h.1.1, fun i v xs hv hx => by
    obtain ⟨Fi, h1, h2⟩ := h.1.2 i v xs hv hx
    exact ⟨Fi, (Own _ _ _ v xs).loc h1 (fun b hb' => hb b (h2 b hb')), h2⟩⟩, lt_loc h.2 hb⟩
  lt h := h.2
section
variable {α : Type} {E : TypeId} {enc : α → List Value} {k : Nat} {G : Nat → Prop} {w0 w : World} {L : List Asn}
theorem St.owsNil (S : St G w0 w L) (E : TypeId) (enc : α → List Value) (k : Nat) : St G w0 w (Ows E enc k [] ([] : List (List α)) :: L) :=
  S.grow (F := fun _ => False) (Keep.refl _ _) ⟨⟨rfl, fun i v xs h => by simp at h⟩, fun _ h => h.elim⟩ (fun _ h => h.elim)
theorem St.owsSnoc {vs : List Value} {xss : List (List α)} {v : Value} {xs : List α} (S : St G w0 w (Own E enc k v xs :: Ows E enc k vs xss :: L)) : St G w0 w (Ows E enc k (vs ++ [v]) (xss ++ [xs]) :: L) :=
  S.merge _ rfl rfl rfl fun F F' h h' => by
    refine ⟨⟨by simp [h'.1.1], fun j u ys hu hy => ?_⟩, fun b hb => hb.elim ((Own E enc k v xs).lt h b) (h'.2 b)⟩
    by_cases hj : j < vs.length
    · rw [List.getElem?_append_left hj] at hu
      rw [List.getElem?_append_left (by rw [← h'.1.1]; exact hj)] at hy
      obtain ⟨Fi, h1, h2⟩ := h'.1.2 j u ys hu hy
      exact ⟨Fi, h1, fun b hb => .inr (h2 b hb)⟩
    · have hjl := (List.getElem?_eq_some_iff.1 hu).1
      simp at hjl
      obtain rfl : j = vs.length := by omega
      rw [List.getElem?_append_right (Nat.le_refl _)] at hu
      rw [List.getElem?_append_right (by rw [h'.1.1]; exact Nat.le_refl _)] at hy
      simp [h'.1.1] at hu hy
      subst hu; subst hy
      exact ⟨F, h, fun b hb => .inl hb⟩
theorem ows_sls (hk : ∀ x, (enc x).length = k) {vs : List Value} {xss : List (List α)} {F : Nat → Prop} (h : (Ows E enc k vs xss).at_ w F) : (Sls true enc k vs xss).at_ w F :=
  ⟨⟨h.1.1, fun i v xs hv hx => let ⟨_, h1, h2⟩ := h.1.2 i v xs hv hx; (own_sl (sh := true) hk h1).1.mono h2⟩, h.2⟩
variable {P : Program} {ops : Array Oper} {rest : List Oper} {a : Act} {Q : Exit → Act → World → Prop} {d : Option Tmp} {tt : TypeId} {p : String} {af : Array Edge} {gd : Option (Nat × Bool)} {x y : Operand}
end
end Go.Proofs.YtfiiaechippboaaDoor.Mem
/- Heads of slices as data; what 'few' gives. -/
namespace Go.Proofs.YtfiiaechippboaaDoor
open Go Go.RowKit Reg Mem

theorem few_midK {c : Cfg} (h : fewB c = true) : Mid c := by
  have := few_iff.1 h; exact ⟨by omega, by omega, by omega⟩
theorem few_midK2 {c : Cfg} (h : fewB c = true) : ∀ p ∈ c.programs, p.length ≤ 65536 := fun p hp => by
  have := (few_iff.1 h).1 p hp; omega
/-- A slice's head. -/
structure Hd where
  ad : Option Addr
  n : Nat
  c : Nat
def Hd.val (h : Hd) : Value := .slice h.ad h.n h.c
def hcell (h : Hd) : List Value := [.slice h.ad h.n h.c]
theorem hcells : ∀ h : Hd, (hcell h).length = 1 := fun _ => rfl
theorem hone : ∀ h : Hd, ∀ u ∈ hcell h, u.oneCell' = true := fun _ => by simp [hcell, Value.oneCell']
theorem slat_map {α β : Type} {enc : α → List Value} {enc' : β → List Value} {k : Nat} {w : World} {F : Nat → Prop} {v : Value} {xs : List α} (f : α → β) (hf : ∀ x, enc' (f x) = enc x) (h : SlAt enc k w F v xs) : SlAt enc' k w F v (xs.map f) := by
  obtain ⟨a, c, e, h1, h2, h3⟩ := h
  refine ⟨a, c, by simpa using e, by simpa using h1, h2, fun i y hi => ?_⟩
  rw [List.getElem?_map] at hi
  cases hx : xs[i]? with
  | none => rw [hx] at hi; cases hi
  | some x =>
    rw [hx] at hi; simp at hi; subst hi
    obtain ⟨R, o, e1, hR, hc⟩ := h3 i x hx
    exact ⟨R, o, e1, hR, fun j u hj => hc j u (by rw [← hf]; exact hj)⟩
end Go.Proofs.YtfiiaechippboaaDoor

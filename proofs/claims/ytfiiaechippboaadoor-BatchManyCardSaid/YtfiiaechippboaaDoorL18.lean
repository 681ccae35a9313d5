import Derived.Test.YtfiiaechippboaaDoorL10
import Derived.Test.YtfiiaechippboaaDoorL17
/- The walk of batch.replay. -/
namespace Go.Proofs.YtfiiaechippboaaDoor
open Go Go.RowKit Reg Mem

section
variable {P : Program} {fn : Func} {R : Ending → World → Prop} {G : Nat → Prop} {w0 w : World} {L : List Asn} {a : Act}
theorem leaves_ret {v : Value} (hd : a.defers = []) (hr : (results fn a.tmps).run P w = .ok v w) (hR : R (.returned v) w) : bodyPostM Fence.wide 0 P fn R .ret a w := by
  show LeavesInM _ _ _ _ _ _ a.defers _ _
  rw [hd]
  exact ⟨v, hr, hR⟩
theorem leaves_ret1 {D : Nat} (S : St G w0 w (DefA D :: L)) (hd : a.defers = [{ target := .collected D, args := #[] }]) (h : ∀ w', St G w0 w' L → ∃ v, (results fn a.tmps).run P w' = .ok v w' ∧ R (.returned v) w') : bodyPostM Fence.wide 0 P fn R .ret a w := by
  show LeavesInM _ _ _ _ _ _ a.defers _ _
  rw [hd]
  exact ⟨by simp, .inl ⟨D, _, rfl, run_takeDeferred S.taken.1, h _ S.taken.2⟩⟩
end
theorem calls_enter {P : Program} {f : FuncId} {fn : Func} {c : Code} (hf : P.funcs[f]? = some fn) (hname : (fn.name == "runtime.NumGoroutine") = false) (hb : fn.body = some c) (args : Array Value) (w : World) : (callFunc f args).run P w = .ok (.enter f args) w := by
  have h1 : fn.name ≠ "runtime.NumGoroutine" := by simpa using hname
  simp [callFunc, hf, h1, hb]
theorem Mem.St.lastSplit {G : Nat → Prop} {w0 w : World} {L : List Asn} {X : Asn} (S : St G w0 w L) (h : L.getLast? = some X) : St G w0 w (L.dropLast ++ [X]) := by
  obtain ⟨ys, rfl⟩ := List.getLast?_eq_some_iff.1 h
  simpa using S
theorem wpi_list_k {F : Fence} {n : Nat} {P : Program} {Q : Exit → Act → World → Prop} {id : Nat} {l : List Oper} {a : Act} {w : World} (hF : Mem.Wide F) (hd : l.all noDefer = true)
    (h : ∀ K : Act → World → Prop, (∀ a w, Q .normal a w → K a w) → wpList P l.toArray (Only K) l a w) : (Code.region id l.toArray false).wpIn F n P Q a w := wpi_list hF hd (h _ fun _ _ h => h)
theorem wpIn_seq_n {F : Fence} {n : Nat} {P : Program} {Q : Exit → Act → World → Prop} {x y : Code} {a : Act} {w : World} (h : ∀ K : Act → World → Prop, (∀ a w, y.wpIn F n P Q a w → K a w) → x.wpIn F n P (Exit.then K Q) a w) : (Code.seq x y).wpIn F n P Q a w := wpIn_seq (h _ fun _ _ h => h)
theorem zip_two (p q : Tmp) (v u : Value) (t : Array Value) : (#[p, q].zip #[v, u]).foldl (fun t (p, v) => t.setIfInBounds p v) t = (t.setIfInBounds p v).setIfInBounds q u := by simp
theorem batchC_len {c : Cfg} (h : CfgFine c) (lp : Int) (s : State) (l : List Event) : (batchC c lp s l).2.length ≤ 8 * l.length := by
  have h2 := h.sizes.2.2.2.2
  have := ones_len (p := progOf c lp) (n := c.lps.length) (fin := c.fin) (fuel := c.fuel) (lp := lp) (at_ := atE l) h2.1 (sortE l) (s, [])
  rw [sortE_len] at this
  have e : (s, ([] : List Event)).2.length = 0 := rfl
  rw [e] at this
  unfold batchC batchE
  have h3 : c.fan * l.length ≤ 8 * l.length := Int.mul_le_mul_of_nonneg_right (by omega) (by omega)
  omega
/-- What is wrong with events of a process, but for their times. -/
def aloneE (n : Nat) (lp : Int) (l : List Event) : Int := if lp < 0 ∨ (n : Int) ≤ lp then 10 else if ¬ (∀ x ∈ l, x.dst = lp) then 10 else if twiceB l = true then 13 else 0
def stepM (c : Cfg) (lp : Int) (st : State × List Event) (g : List Event) : State × List Event := ((batchC c lp st.1 g).1, st.2 ++ (batchC c lp st.1 g).2)
/-- Batches, one behind the other. -/
def manyE (c : Cfg) (lp : Int) (s : State) (l : List Event) : State × List Event := (batchesE (sortE l)).foldl (stepM c lp) (s, [])
theorem batches_mem : ∀ (n : Nat) (s : List Event), s.length ≤ n → ∀ g ∈ batchesE s, 0 < g.length ∧ g.Sublist s ∧ (∀ x ∈ g, x.key.at_ = atE g) ∧ (batchesE s).length ≤ s.length
  | _, [], _, g, hg => by rw [batchesE] at hg; cases hg
  | 0, _ :: _, h, _, _ => by simp at h
  | n + 1, x :: l, h, g, hg => by
    have hd : (l.dropWhile (fun y => y.key.at_ == x.key.at_)).length ≤ l.length := (List.dropWhile_sublist _).length_le
    have hlen : (batchesE (l.dropWhile (fun y => y.key.at_ == x.key.at_))).length ≤ l.length := by
      cases hb : batchesE (l.dropWhile (fun y => y.key.at_ == x.key.at_)) with
      | nil => exact Nat.zero_le _
      | cons g' gs =>
        have := (batches_mem n (l.dropWhile (fun y => y.key.at_ == x.key.at_)) (by simp at h; omega) g' (by rw [hb]; simp)).2.2.2
        rw [hb] at this
        omega
    rw [batchesE] at hg ⊢
    refine ⟨?_, ?_, ?_, by simp; omega⟩
    all_goals rcases List.mem_cons.1 hg with rfl | hg
    · simp
    · exact (batches_mem n _ (by simp at h; omega) g hg).1
    · exact (List.takeWhile_sublist _).cons_cons _
    · exact ((batches_mem n _ (by simp at h; omega) g hg).2.1.trans (List.dropWhile_sublist _)).cons _
    · intro z hz
      rcases List.mem_cons.1 hz with rfl | hz
      · rfl
      · have := tw_mem hz; show _ = x.key.at_; simpa using this
    · exact (batches_mem n _ (by simp at h; omega) g hg).2.2.1
theorem batch_wrong {n : Nat} {lp : Int} {l g : List Event} (h : aloneE n lp l = 0) (hg : g ∈ batchesE (sortE l)) : wrongE n lp g = 0 := by
  obtain ⟨h1, h2, h3, _⟩ := batches_mem _ (sortE l) (Nat.le_refl _) g hg
  have hsub : ∀ x ∈ g, x ∈ l := fun x hx => (sortE_perm l).mem_iff.1 (h2.subset hx)
  unfold aloneE at h
  split at h
  · cases h
  · split at h
    · cases h
    · rename_i k1 k2
      split at h
      · cases h
      · rename_i k3
        have k2' := Decidable.not_not.1 k2
        unfold wrongE
        rw [if_neg k1, if_neg (by omega), if_neg (fun q => q fun x hx => k2' x (hsub x hx)), if_neg (fun q => q h3), if_neg]
        intro q
        apply k3
        rw [← twice_perm (sortE_perm l)]
        unfold twiceB at q ⊢
        rw [Bool.not_eq_true', decide_eq_false_iff_not] at q ⊢
        exact fun hn => q (List.Nodup.sublist (h2.map _) hn)
def ManyPost (c : Cfg) (lp : Int) (s : State) (l : List Event) (w : World) (r : Ending) (w' : World) : Prop :=
  (aloneE c.lps.length lp l ≠ 0 ∧ r = .returned (.tuple #[.agg #[.int .i64 0, .int .i64 0, .int .i64 0, .int .i64 0], .slice none 0 0, .int .i64 (aloneE c.lps.length lp l)]) ∧ Below w.heap.size w w') ∨
  (aloneE c.lps.length lp l = 0 ∧ ∃ v, r = .returned (.tuple #[.agg #[.int .i64 (manyE c lp s l).1.n0, .int .i64 (manyE c lp s l).1.n1, .int .i64 (manyE c lp s l).1.n2, .int .i64 (manyE c lp s l).1.n3], v, .int .i64 0]) ∧
    St (fun _ => False) w w' [Mem.Own 54 Event.cells 7 v (manyE c lp s l).2])
def manyC (c : Cfg) (lp : Int) (s : State) (l : List Event) : State × List Event := if aloneE c.lps.length lp l = 0 then manyE c lp s l else (⟨0, 0, 0, 0⟩, [])
def RpPhi (c : Cfg) (lp : Int) (s : State) (gs : List (List Event)) (n b4 b5 b6 b8 b9 b10 b12 R : Nat) (vs hs : List Value) (k : Nat) (L : List Asn) : Prop :=
  ∃ (st : State × List Event) (v : Value), Hid (st = (gs.take k).foldl (stepM c lp) (s, [])) ∧ Hid (st.2.length ≤ k * (8 * n)) ∧
    L = [Mem.Own 54 Event.cells 7 v st.2, Blk false b12 #[v] 29, Blk false b6 #[.int .i64 st.1.n0, .int .i64 st.1.n1, .int .i64 st.1.n2, .int .i64 st.1.n3] 28, Blk false b4 #[.pointer (some ⟨R, 0, none⟩)] 32, Blk false b5 #[.int .i64 lp] 3,
      ModA true 93 R vs hs c, Tab, Blk false b8 #[.int .i64 0, .int .i64 0, .int .i64 0, .int .i64 0] 28, Blk false b9 #[.slice none 0 0] 29, Blk false b10 #[.int .i64 0] 42]
set_option maxRecDepth 100000 in
set_option maxHeartbeats 16000000 in
theorem replay_calls (R : Nat) (vs hs : List Value) (c : Cfg) (lp : Int) (s : State) (v : Value) (l : List Event) (w : World) (F F2 F3 : Nat → Prop) (h : (ModA true 93 R vs hs c).at_ w F) (h2 : (Sl true Event.cells 7 v l).at_ w F2) (ht : Tab.at_ w F3) (hn : l.length ≤ 16384)
    (hc : cfgE c = 0) (hat : aloneE c.lps.length lp l = 0 → ∀ x ∈ l, 0 ≤ x.key.at_ ∧ x.key.at_ ≤ 1073741824) :
    Calls Tryd.prog 40 #[.pointer (some ⟨R, 0, none⟩), .int .i64 lp, .agg #[.int .i64 s.n0, .int .i64 s.n1, .int .i64 s.n2, .int .i64 s.n3], v] w (ManyPost c lp s l w) := by
  have S : St (fun _ => False) w w [ModA true 93 R vs hs c, Sl true Event.cells 7 v l, Tab] := (((St.init _ w).share rfl rfl ht).share (A := Sl true Event.cells 7 v l) rfl rfl h2).share rfl rfl h
  obtain ⟨ad, cp, rfl, _⟩ := (S.sl 1 rfl).elim fun _ h => h.form
  clear h h2 ht
  have HP := Lib.hid fun w F h => bprocess_calls R vs hs c lp w F h
  have HA := Lib.hid fun w F h => ball_calls (.slice ad l.length cp) l lp w F h (by omega)
  have HT := Lib.hid fun w F h => btwice_calls (.slice ad l.length cp) l w F h (by omega)
  refine calls_marks Tryd.func40 rfl ?_
  simp only [Tryd.ntmps40, List.size_toArray, List.length_cons, List.length_nil, Nat.reduceAdd, Nat.reduceSub, Array.replicate_succ, Array.replicate_zero, List.push_toArray, List.append_toArray, List.nil_append, List.cons_append]
  by_cases h0 : aloneE c.lps.length lp l = 0
  case neg =>
    have H0 := Lib.hid h0
    clear hat h0
    by_cases hk1 : lp < 0 ∨ (c.lps.length : Int) ≤ lp
    · have he : Hid (aloneE c.lps.length lp l = 10) := by show _ = _; unfold aloneE; rw [if_pos hk1]
      rw [show procE c.lps.length lp = 10 by unfold procE; rw [if_pos hk1]] at HP
      clear hk1
      go_wp2_with first | ((with_reducible apply wps_box1 (v := .pointer _) S); (case hx | h1 => rfl); clear S; intro b4 wz S) | ((with_reducible apply wps_box1 (v := .int _ _) S); (case hx | h1 => rfl); clear S; intro b5 wz S) | ((with_reducible apply wps_boxa (E := 28) S); (case hx => rfl); clear S; intro b6 wz S) | ((with_reducible apply wps_alloca (E := 28) S); (case hz => exact Tryd.zeroValue28); clear S; intro b8 wz S) | ((with_reducible apply wps_alloc1 (E := 29) S); (case hz => exact Tryd.zeroValue29); (case h1 => rfl); clear S; intro b9 wz S) | ((with_reducible apply wps_alloc1 (E := 42) S); (case hz => exact Tryd.zeroValue42); (case h1 => rfl); clear S; intro b10 wz S) | ((with_reducible apply wps_load S 4); (case hx | hi | hu => rfl); (case hT => decide +kernel)) | ((with_reducible apply wps_load S 5); (case hx | hi | hu => rfl); (case hT => decide +kernel)) | (go_at_call 35; refine Calls.mono (HP.out _ _ (S.get (i := 6) rfl).choose_spec) ?_; rintro e wz ⟨rfl, hE⟩; replace S := S.ext (Keep.of_below hE); clear hE) | ((with_reducible apply wps_storea (T := 28) S 2 (vs := [.int .i64 0, .int .i64 0, .int .i64 0, .int .i64 0]) (m := 4)); (case hx | hy | hi | hm | h1 => rfl); (case hn => exact Nat.le_of_ble_eq_true rfl); (case hT => decide +kernel); clear S; intro wz S; simp only [List.set_cons_zero, List.set_cons_succ, setAll, List.setIfInBounds_toArray] at S) | ((with_reducible apply wps_store S 1); (case hx | hy | hi | h1 => rfl); (case hn => exact Nat.le_of_ble_eq_true rfl); (case hT => decide +kernel); clear S; intro wz S; simp only [List.set_cons_succ, List.set_cons_zero, List.setIfInBounds_toArray] at S) | ((with_reducible apply wps_store S 0); (case hx | hy | hi | h1 => rfl); (case hn => exact Nat.le_of_ble_eq_true rfl); (case hT => decide +kernel); clear S; intro wz S; simp only [List.set_cons_zero, List.setIfInBounds_toArray] at S)
      refine leaves_ret rfl (results3 rfl (S.resA 2 rfl rfl (by kernel_rfl)) (S.res1 1 rfl rfl (by kernel_rfl)) (S.res1 0 rfl rfl (by kernel_rfl))) (.inl ⟨H0.out, by rw [he.out]; rfl, S.below⟩)
    · rw [show procE c.lps.length lp = 0 by unfold procE; rw [if_neg hk1]] at HP
      by_cases hk2 : ∀ x ∈ l, x.dst = lp
      · rw [decide_eq_true hk2] at HA
        have hk3 : twiceB l = true := by
          cases hq : twiceB l with
          | true => rfl
          | false => exact absurd (by unfold aloneE; rw [if_neg hk1, if_neg (fun g => g hk2), if_neg (by rw [hq]; simp)]) H0.out
        have he : Hid (aloneE c.lps.length lp l = 13) := by show _ = _; unfold aloneE; rw [if_neg hk1, if_neg (fun g => g hk2), if_pos hk3]
        rw [hk3] at HT
        clear hk1 hk2 hk3
        go_wp2_with first | ((with_reducible apply wps_box1 (v := .pointer _) S); (case hx | h1 => rfl); clear S; intro b4 wz S) | ((with_reducible apply wps_box1 (v := .int _ _) S); (case hx | h1 => rfl); clear S; intro b5 wz S) | ((with_reducible apply wps_boxa (E := 28) S); (case hx => rfl); clear S; intro b6 wz S) | ((with_reducible apply wps_alloca (E := 28) S); (case hz => exact Tryd.zeroValue28); clear S; intro b8 wz S) | ((with_reducible apply wps_alloc1 (E := 29) S); (case hz => exact Tryd.zeroValue29); (case h1 => rfl); clear S; intro b9 wz S) | ((with_reducible apply wps_alloc1 (E := 42) S); (case hz => exact Tryd.zeroValue42); (case h1 => rfl); clear S; intro b10 wz S) | ((with_reducible apply wps_load S 4); (case hx | hi | hu => rfl); (case hT => decide +kernel)) | ((with_reducible apply wps_load S 5); (case hx | hi | hu => rfl); (case hT => decide +kernel)) | (go_at_call 35; refine Calls.mono (HP.out _ _ (S.get (i := 6) rfl).choose_spec) ?_; rintro e wz ⟨rfl, hE⟩; replace S := S.ext (Keep.of_below hE); clear hE) | (go_at_call 36; refine Calls.mono (HA.out _ _ (S.get (i := 7) rfl).choose_spec) ?_; rintro e wz ⟨rfl, hE⟩; replace S := S.ext (Keep.of_below hE); clear hE) | (go_at_call 37; refine Calls.mono (HT.out _ _ (S.get (i := 7) rfl).choose_spec) ?_; rintro e wz ⟨rfl, hE⟩; replace S := S.ext (Keep.of_below hE); clear hE) | ((with_reducible apply wps_storea (T := 28) S 2 (vs := [.int .i64 0, .int .i64 0, .int .i64 0, .int .i64 0]) (m := 4)); (case hx | hy | hi | hm | h1 => rfl); (case hn => exact Nat.le_of_ble_eq_true rfl); (case hT => decide +kernel); clear S; intro wz S; simp only [List.set_cons_zero, List.set_cons_succ, setAll, List.setIfInBounds_toArray] at S) | ((with_reducible apply wps_store S 1); (case hx | hy | hi | h1 => rfl); (case hn => exact Nat.le_of_ble_eq_true rfl); (case hT => decide +kernel); clear S; intro wz S; simp only [List.set_cons_succ, List.set_cons_zero, List.setIfInBounds_toArray] at S) | ((with_reducible apply wps_store S 0); (case hx | hy | hi | h1 => rfl); (case hn => exact Nat.le_of_ble_eq_true rfl); (case hT => decide +kernel); clear S; intro wz S; simp only [List.set_cons_zero, List.setIfInBounds_toArray] at S)
        refine leaves_ret rfl (results3 rfl (S.resA 2 rfl rfl (by kernel_rfl)) (S.res1 1 rfl rfl (by kernel_rfl)) (S.res1 0 rfl rfl (by kernel_rfl))) (.inl ⟨H0.out, by rw [he.out]; rfl, S.below⟩)
      · rw [decide_eq_false hk2] at HA
        have he : Hid (aloneE c.lps.length lp l = 10) := by show _ = _; unfold aloneE; rw [if_neg hk1, if_pos hk2]
        clear hk1 hk2
        go_wp2_with first | ((with_reducible apply wps_box1 (v := .pointer _) S); (case hx | h1 => rfl); clear S; intro b4 wz S) | ((with_reducible apply wps_box1 (v := .int _ _) S); (case hx | h1 => rfl); clear S; intro b5 wz S) | ((with_reducible apply wps_boxa (E := 28) S); (case hx => rfl); clear S; intro b6 wz S) | ((with_reducible apply wps_alloca (E := 28) S); (case hz => exact Tryd.zeroValue28); clear S; intro b8 wz S) | ((with_reducible apply wps_alloc1 (E := 29) S); (case hz => exact Tryd.zeroValue29); (case h1 => rfl); clear S; intro b9 wz S) | ((with_reducible apply wps_alloc1 (E := 42) S); (case hz => exact Tryd.zeroValue42); (case h1 => rfl); clear S; intro b10 wz S) | ((with_reducible apply wps_load S 4); (case hx | hi | hu => rfl); (case hT => decide +kernel)) | ((with_reducible apply wps_load S 5); (case hx | hi | hu => rfl); (case hT => decide +kernel)) | (go_at_call 35; refine Calls.mono (HP.out _ _ (S.get (i := 6) rfl).choose_spec) ?_; rintro e wz ⟨rfl, hE⟩; replace S := S.ext (Keep.of_below hE); clear hE) | (go_at_call 36; refine Calls.mono (HA.out _ _ (S.get (i := 7) rfl).choose_spec) ?_; rintro e wz ⟨rfl, hE⟩; replace S := S.ext (Keep.of_below hE); clear hE) | ((with_reducible apply wps_storea (T := 28) S 2 (vs := [.int .i64 0, .int .i64 0, .int .i64 0, .int .i64 0]) (m := 4)); (case hx | hy | hi | hm | h1 => rfl); (case hn => exact Nat.le_of_ble_eq_true rfl); (case hT => decide +kernel); clear S; intro wz S; simp only [List.set_cons_zero, List.set_cons_succ, setAll, List.setIfInBounds_toArray] at S) | ((with_reducible apply wps_store S 1); (case hx | hy | hi | h1 => rfl); (case hn => exact Nat.le_of_ble_eq_true rfl); (case hT => decide +kernel); clear S; intro wz S; simp only [List.set_cons_succ, List.set_cons_zero, List.setIfInBounds_toArray] at S) | ((with_reducible apply wps_store S 0); (case hx | hy | hi | h1 => rfl); (case hn => exact Nat.le_of_ble_eq_true rfl); (case hT => decide +kernel); clear S; intro wz S; simp only [List.set_cons_zero, List.setIfInBounds_toArray] at S)
        refine leaves_ret rfl (results3 rfl (S.resA 2 rfl rfl (by kernel_rfl)) (S.res1 1 rfl rfl (by kernel_rfl)) (S.res1 0 rfl rfl (by kernel_rfl))) (.inl ⟨H0.out, by rw [he.out]; rfl, S.below⟩)
  case pos =>
    have hk1 : ¬ (lp < 0 ∨ (c.lps.length : Int) ≤ lp) := fun g => by unfold aloneE at h0; rw [if_pos g] at h0; cases h0
    have hk2 : ∀ x ∈ l, x.dst = lp := Classical.byContradiction fun g => by unfold aloneE at h0; rw [if_neg hk1, if_pos g] at h0; cases h0
    have hk3 : twiceB l = false := by
      cases hq : twiceB l with
      | false => rfl
      | true => unfold aloneE at h0; rw [if_neg hk1, if_neg (fun g => g hk2), if_pos hq] at h0; cases h0
    rw [show procE c.lps.length lp = 0 by unfold procE; rw [if_neg hk1]] at HP
    rw [decide_eq_true hk2] at HA
    rw [hk3] at HT
    have HB := Lib.hid fun w F h => batches_calls (.slice ad l.length cp) l w F h (by omega)
    have H0 := Lib.hid h0
    have Hat := Lib.hid (hat h0)
    have HC := Lib.hid hc
    clear hk1 hk2 hk3 h0 hat hc
    go_wp2_with first | ((with_reducible apply wps_box1 (v := .pointer _) S); (case hx | h1 => rfl); clear S; intro b4 wz S) | ((with_reducible apply wps_box1 (v := .int _ _) S); (case hx | h1 => rfl); clear S; intro b5 wz S) | ((with_reducible apply wps_boxa (E := 28) S); (case hx => rfl); clear S; intro b6 wz S) | ((with_reducible apply wps_alloca (E := 28) S); (case hz => exact Tryd.zeroValue28); clear S; intro b8 wz S) | ((with_reducible apply wps_alloc1 (E := 29) S); (case hz => exact Tryd.zeroValue29); (case h1 => rfl); clear S; first | (guard_hyp b9 : Nat; intro b12 wz S) | intro b9 wz S) | ((with_reducible apply wps_alloc1 (E := 42) S); (case hz => exact Tryd.zeroValue42); (case h1 => rfl); clear S; intro b10 wz S) | ((with_reducible apply wps_load S 5); (case hx | hi | hu => rfl); (case hT => decide +kernel)) | ((with_reducible apply wps_load S 4); (case hx | hi | hu => rfl); (case hT => decide +kernel)) | (go_at_call 35; refine Calls.mono (HP.out _ _ (S.get (i := 6) rfl).choose_spec) ?_; rintro e wz ⟨rfl, hE⟩; replace S := S.ext (Keep.of_below hE); clear hE) | (go_at_call 36; refine Calls.mono (HA.out _ _ (S.get (i := 7) rfl).choose_spec) ?_; rintro e wz ⟨rfl, hE⟩; replace S := S.ext (Keep.of_below hE); clear hE) | (go_at_call 37; refine Calls.mono (HT.out _ _ (S.get (i := 7) rfl).choose_spec) ?_; rintro e wz ⟨rfl, hE⟩; replace S := S.ext (Keep.of_below hE); clear hE) | (go_at_call 58; refine Calls.mono (HB.out _ _ (S.get (i := 8) rfl).choose_spec) ?_; rintro e wz ⟨bt, ad2, c2, rfl, T⟩; replace S := S.join T rfl; clear T; simp only [List.cons_append, List.nil_append] at S)
    replace S := ((S.nil 54 Event.cells 7).freeze true 2 ecells rfl).weak (i := 1) (A' := Blk true bt #[.slice ad2 l.length c2] 29) rfl (fun e => by cases e) (fun F h => ⟨F, fun _ hb => hb, h⟩)
    replace S := S.pick [1, 2, 0, 3, 7, 9, 8, 10, 12, 6, 5, 4] rfl
    simp only [List.set_cons_zero, List.set_cons_succ, pick, nth] at S
    rw [← sortE_len l] at S
    refine wps_range (batches1_iter bt ad2 c2 (sortE l) (by rw [sortE_len]; omega)) S rfl (calls_enter Tryd.func71 (by kernel_rfl) rfl) (RpPhi c lp s (batchesE (sortE l)) l.length b4 b5 b6 b8 b9 b10 b12 R vs hs) (fun _ _ _ => False) ⟨(s, []), _, rfl, by simp [Hid], rfl⟩ (fun x args N h => by obtain ⟨_, _, rfl, _⟩ := h; rfl) ?round ?done ?stop
    case stop => intro _ _ _ _ _ _ h; exact h.elim
    case round =>
      rintro lp2 D r j g args N L W hg ⟨a0, gv, rfl, _, rfl⟩ ⟨st, ov, Hst, Hol, rfl⟩ S
      simp only [zip_two, List.setIfInBounds_toArray, List.set_cons_succ, List.set_cons_zero, List.cons_append, List.nil_append] at S ⊢
      have Hg := Lib.hid (List.mem_of_getElem? hg)
      have Hgj := Lib.hid hg
      replace S := S.freeze true 0 ecells rfl
      simp only [List.set_cons_zero] at S
      have hm1 := batches_mem _ (sortE l) (Nat.le_refl _) g Hg.out
      have hgl : g.length ≤ l.length := by have := hm1.2.1.length_le; rwa [sortE_len] at this
      have hjl : j < l.length := by have := (List.getElem?_eq_some_iff.1 hg).1; have h2 := hm1.2.2.2; rw [sortE_len] at h2; omega
      have hw0 := batch_wrong H0.out Hg.out
      have hga : 0 ≤ atE g ∧ atE g ≤ 1073741824 := by
        obtain ⟨x, gs, rfl⟩ : ∃ x gs, g = x :: gs := by cases g with | nil => simp at hm1 | cons x gs => exact ⟨x, gs, rfl⟩
        exact Hat.out x ((sortE_perm l).mem_iff.1 (hm1.2.1.subset (by simp)))
      have HBR := Lib.hid fun w F F2 F3 h h2 ht => (brun_calls R vs hs c lp st.1 gv g w F F2 F3 h h2 ht (by omega) HC.out (fun _ => hga))
      have Hw0 := Lib.hid hw0
      have Hgl := Lib.hid hgl
      have Hjl := Lib.hid hjl
      clear hm1 hgl hjl hga hw0 hg
      refine wpi_list_k (.inr ⟨_, rfl⟩) rfl fun K hK => ?_
      go_wp2_with first | ((with_reducible refine tot_done ?ht ?_); (case ht => kernel_rfl))
      refine hK _ _ ⟨_, S.lastSplit rfl, fun r' W2 S => ?_⟩
      clear hK K
      simp only [List.dropLast, List.cons_append, List.nil_append] at S
      refine wpIn_block (wpIn_seq_n fun K hK => wpi_list_k (.inr ⟨_, rfl⟩) rfl fun K2 hK2 => ?_)
      go_wp2_with first | ((with_reducible apply wps_load S 6); (case hx | hi | hu => rfl); (case hT => decide +kernel)) | ((with_reducible apply wps_load S 7); (case hx | hi | hu => rfl); (case hT => decide +kernel)) | ((with_reducible apply wps_loada (T := 28) (k := 4) S 5); (case hx | hi => rfl); (case hk => exact Nat.le_of_ble_eq_true rfl); (case hT => decide +kernel)) | (go_at_call 13; refine Calls.mono (HBR.out _ _ _ _ (S.get (i := 8) rfl).choose_spec (S.get (i := 0) rfl).choose_spec (S.get (i := 9) rfl).choose_spec) ?_; rintro e wz (⟨hne, _⟩ | ⟨_, v2, rfl, T⟩); (exact absurd Hw0.out hne); replace S := S.join T rfl; clear T; simp only [List.cons_append, List.nil_append] at S) | ((with_reducible apply wps_alloca (E := 28) S); (case hz => exact Tryd.zeroValue28); clear S; intro b15 wz S) | ((with_reducible apply wps_storea (T := 28) S 0 (vs := [.int .i64 (batchC c lp st.1 g).1.n0, .int .i64 (batchC c lp st.1 g).1.n1, .int .i64 (batchC c lp st.1 g).1.n2, .int .i64 (batchC c lp st.1 g).1.n3]) (m := 4)); (case hx | hy | hi | hm | h1 => rfl); (case hn => exact Nat.le_of_ble_eq_true rfl); (case hT => decide +kernel); clear S; intro wz S; simp only [List.set_cons_zero, List.set_cons_succ, setAll, List.setIfInBounds_toArray] at S)
      refine hK2 _ _ (hK _ _ ?_)
      clear hK hK2 K K2
      refine wpIn_seq_n fun K hK => wpIn_seq_n fun K1 hK1 => wpi_list_k (.inr ⟨_, rfl⟩) rfl fun K2 hK2 => ?_
      go_wp2_with fail
      refine hK2 _ _ (hK1 _ _ ?_)
      refine wpIn_cond_false rfl (wpIn_skip (hK _ _ ?_))
      clear hK hK1 hK2 K K1 K2
      refine wpIn_seq_n fun K hK => wpi_list_k (.inr ⟨_, rfl⟩) rfl fun K2 hK2 => ?_
      go_wp2_with first | ((with_reducible apply wps_loada (T := 28) (k := 4) S 0); (case hx | hi => rfl); (case hk => exact Nat.le_of_ble_eq_true rfl); (case hT => decide +kernel)) | ((with_reducible apply wps_storea (T := 28) S 7 (vs := [.int .i64 (batchC c lp st.1 g).1.n0, .int .i64 (batchC c lp st.1 g).1.n1, .int .i64 (batchC c lp st.1 g).1.n2, .int .i64 (batchC c lp st.1 g).1.n3]) (m := 4)); (case hx | hy | hi | hm | h1 => rfl); (case hn => exact Nat.le_of_ble_eq_true rfl); (case hT => decide +kernel); clear S; intro wz S; simp only [List.set_cons_zero, List.set_cons_succ, setAll, List.setIfInBounds_toArray] at S)
      refine hK2 _ _ (hK _ _ ?_)
      clear hK hK2 K K2
      have Hbl := Lib.hid (batchC_len (cfg_isfine HC.out) lp st.1 g)
      have hk8 : j * (8 * l.length) ≤ 2147483648 := by
        have h1 := Nat.mul_le_mul (Nat.le_of_lt Hjl.out) (Nat.mul_le_mul_left 8 hn)
        have h2 : l.length * (8 * 16384) ≤ 16384 * (8 * 16384) := Nat.mul_le_mul_right _ hn
        omega
      have hap : st.2.length + (batchC c lp st.1 g).2.length ≤ 4294967296 := by
        have h1 := Hol.out; have h2 := Hbl.out; have h3 := Hgl.out; omega
      replace S := S.freeze true 1 ecells rfl
      simp only [List.set_cons_zero, List.set_cons_succ] at S
      refine wpi_list_k (.inr ⟨_, rfl⟩) rfl fun K2 hK2 => ?_
      go_wp2_with first | ((with_reducible apply wps_load S 6); (case hx | hi | hu => rfl); (case hT => decide +kernel)) | ((with_reducible apply wps_appends elem_Ev ecells eone (by decide) S 5 (j := 1)); (case hx | hy | hi | hj => rfl); (case hl => first | omega | (simp; omega)); clear S; intro az nz cz wz hnz S; simp only [List.set_cons_succ, List.set_cons_zero] at S) | ((with_reducible apply wps_store S 6); (case hx | hy | hi | h1 => rfl); (case hn => exact Nat.le_of_ble_eq_true rfl); (case hT => decide +kernel); clear S; intro wz S; simp only [List.set_cons_succ, List.set_cons_zero, List.setIfInBounds_toArray] at S)
      refine hK2 _ _ ?_
      refine ⟨_, ⟨stepM c lp st g, _, ?_, ?_, rfl⟩, S.pick [3, 4, 5, 6, 7, 8, 9, 10, 11, 12, 13, 14, 15] rfl⟩
      · show _ = _
        rw [List.take_add_one, Hgj.out, Option.toList_some, List.foldl_append, ← Hst.out]; rfl
      · show _ ≤ _
        have h1 := Hol.out; have h2 := Hbl.out; have h3 := Hgl.out
        show (st.2 ++ (batchC c lp st.1 g).2).length ≤ _
        rw [List.length_append, Nat.add_mul, Nat.one_mul]; omega
    case done =>
      rintro D W L ⟨st, ov, Hst, _, rfl⟩ S
      have Hres : Hid (manyE c lp s l = st) := by
        show _ = _
        unfold manyE
        rw [Hst.out, List.take_length]
      clear Hst
      simp only [List.cons_append, List.nil_append] at S
      obtain ⟨ad3, cp3, rfl, _⟩ := (S.ownsl ecells 3 rfl).elim fun _ h => h.form
      go_wp2_with fail
      (refine wp_region_wt (soft := [0, 1]) (L := [_, _, _, _, _, _, _, _, _, _]) (T := [_, _, _]) S ?hm ?hB ?_); (case hm => kernel_rfl); (case hB => decide +kernel); clear S
      iterate 2
        (with_reducible apply softs_cons)
        (case hw =>
          (with_reducible apply soft_of); (case hi => rfl)
          intro T wz S
          simp only [List.cons_append, List.nil_append] at S
          go_wp2_with first | ((with_reducible apply wps_loada (T := 28) (k := 4) S 5); (case hx | hi => rfl); (case hk => exact Nat.le_of_ble_eq_true rfl); (case hT => decide +kernel)) | ((with_reducible apply wps_load S 4); (case hx | hi | hu => rfl); (case hT => decide +kernel)) | ((with_reducible refine tot_done ?ht ?_); (case ht => kernel_rfl))
          exact ⟨rfl, S⟩)
        (case hs => exact ⟨_, rfl, by kernel_rfl⟩)
      refine softs_nil ?_
      (with_reducible apply W_hard1 (i := 2)); (case hn => rfl); (case hr => decide +kernel)
      intro wz S
      (with_reducible apply hard_of); (case hi => rfl)
      simp only [List.cons_append, List.nil_append] at S
      go_wp2_with first | ((with_reducible apply wps_storea (T := 28) S 10 (vs := [.int .i64 st.1.n0, .int .i64 st.1.n1, .int .i64 st.1.n2, .int .i64 st.1.n3]) (m := 4)); (case hx | hy | hi | hm | h1 => rfl); (case hn => exact Nat.le_of_ble_eq_true rfl); (case hT => decide +kernel); clear S; intro wz S; simp only [List.set_cons_zero, List.set_cons_succ, setAll, List.setIfInBounds_toArray] at S) | ((with_reducible refine tot_done ?ht ?_); (case ht => kernel_rfl))
      refine ⟨_, S, ?_⟩
      clear S
      (with_reducible apply W_hard1 (i := 3)); (case hn => rfl); (case hr => decide +kernel)
      intro wz S
      (with_reducible apply hard_of); (case hi => rfl)
      simp only [List.cons_append, List.nil_append] at S
      go_wp2_with first | ((with_reducible apply wps_store S 11); (case hx | hy | hi | h1 => rfl); (case hn => exact Nat.le_of_ble_eq_true rfl); (case hT => decide +kernel); clear S; intro wz S; simp only [List.set_cons_succ, List.set_cons_zero, List.setIfInBounds_toArray] at S) | ((with_reducible refine tot_done ?ht ?_); (case ht => kernel_rfl))
      refine ⟨_, S, ?_⟩
      clear S
      (with_reducible apply W_hard1 (i := 4)); (case hn => rfl); (case hr => decide +kernel)
      intro wz S
      (with_reducible apply hard_of); (case hi => rfl)
      simp only [List.cons_append, List.nil_append] at S
      go_wp2_with first | ((with_reducible apply wps_store S 12); (case hx | hy | hi | h1 => rfl); (case hn => exact Nat.le_of_ble_eq_true rfl); (case hT => decide +kernel); clear S; intro wz S; simp only [List.set_cons_succ, List.set_cons_zero, List.setIfInBounds_toArray] at S) | ((with_reducible refine tot_done ?ht ?_); (case ht => kernel_rfl))
      refine ⟨_, S, ?_⟩
      clear S
      (with_reducible apply W_done); (case hn => rfl); (case hr => decide +kernel)
      intro wz S
      repeat (first | simp only at S | simp only [pick] at S | simp only [nth] at S | simp only [List.set_cons_succ] at S | simp only [List.set_cons_zero] at S | simp only [List.setIfInBounds_toArray] at S | simp only [setAll] at S | simp only [List.cons_append] at S | simp only [List.nil_append] at S | simp only [List.append_nil] at S)
      go_wp2_with fail
      refine leaves_ret1 S rfl fun w' S => ⟨_, results3 rfl (S.resA 9 rfl rfl (by kernel_rfl)) (S.res1 10 rfl rfl (by kernel_rfl)) (S.res1 11 rfl rfl (by kernel_rfl)), .inr ⟨H0.out, .slice ad3 st.2.length cp3, ?_, ?_⟩⟩
      · rw [Hres.out]; rfl
      · rw [Hres.out]; exact S.pick [2] rfl
end Go.Proofs.YtfiiaechippboaaDoor

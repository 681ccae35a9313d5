import Derived.Test.YtcbdacmdmaoegaaKbP
import Derived.Test.YtcbdacmdmaoegaaRS0
import Derived.Test.YtcbdacmdmaoegaaL6
import Derived.Test.YtcbdacmdmaoegaaRes
/- The walk of the law KeysSort. -/
namespace Go.Proofs.Ytcbdacmdmaoegaa
open Go Go.RowKit Reg Mem

section
variable {P : Program} {fn : Func} {R : Ending → World → Prop} {G : Nat → Prop} {w0 w : World} {L : List Asn} {a : Act} {tmps : Array Value} {r1 : ResultVar} {v1 : Value}
theorem results1 (h : fn.results = #[r1]) (h1 : ResV P w tmps r1 v1) : (results fn tmps).run P w = .ok v1 w := by
  cases r1 <;> simp only [ResV, Array.getD_eq_getD_getElem?] at h1
  · simp [results, h, h1]
  · obtain ⟨b1, p1, l1⟩ := h1; simp [results, h, p1, asAddr, l1]
theorem leaves_ret {v : Value} (hd : a.defers = []) (hr : (results fn a.tmps).run P w = .ok v w) (hR : R (.returned v) w) : bodyPostM Fence.wide 0 P fn R .ret a w := by
  show LeavesInM _ _ _ _ _ _ a.defers _ _
  rw [hd]
  exact ⟨v, hr, hR⟩
theorem leaves_ret1 {D : Nat} (S : St G w0 w (DefA D :: L)) (hd : a.defers = [{ target := .collected D, args := #[] }]) (h : ∀ w', St G w0 w' L → ∃ v, (results fn a.tmps).run P w' = .ok v w' ∧ R (.returned v) w') : bodyPostM Fence.wide 0 P fn R .ret a w := by
  show LeavesInM _ _ _ _ _ _ a.defers _ _
  rw [hd]
  exact ⟨by simp, .inl ⟨D, _, rfl, run_takeDeferred S.taken.1, h _ S.taken.2⟩⟩
end
theorem run_eql_func_nil {P : Program} (w : World) {t : TypeId} {ps rs : Array TypeId} {va : Bool} (f : Fn) (ts bs : Array Value) (ht : P.underlying t = some (.func ps rs va)) : (binOp .eql t (.func f ts bs) .nilFunc).run P w = .ok (.bool false) w := by
  have h : ∀ d : Nat, (Op.equalIn (d + 1) t (.func f ts bs) .nilFunc).run P w = .ok false w := fun d => by
    simp [Op.equalIn, run_underlying ht]
  simp only [binOp]
  simp [Op.equal, Op.maxDepth, h 9999]
theorem calls_enter {P : Program} {f : FuncId} {fn : Func} {c : Code} (hf : P.funcs[f]? = some fn) (hname : (fn.name == "runtime.NumGoroutine") = false) (hb : fn.body = some c) (args : Array Value) (w : World) : (callFunc f args).run P w = .ok (.enter f args) w := by
  have h1 : fn.name ≠ "runtime.NumGoroutine" := by simpa using hname
  simp [callFunc, hf, h1, hb]
theorem Mem.St.lastSplit {G : Nat → Prop} {w0 w : World} {L : List Asn} {X : Asn} (S : St G w0 w L) (h : L.getLast? = some X) : St G w0 w (L.dropLast ++ [X]) := by
  obtain ⟨ys, rfl⟩ := List.getLast?_eq_some_iff.1 h
  simpa using S
theorem wpi_list_k {F : Fence} {n : Nat} {P : Program} {Q : Exit → Act → World → Prop} {id : Nat} {l : List Oper} {a : Act} {w : World} (hF : Wide F) (hd : l.all noDefer = true)
    (h : ∀ K : Act → World → Prop, (∀ a w, Q .normal a w → K a w) → wpList P l.toArray (Only K) l a w) : (Code.region id l.toArray false).wpIn F n P Q a w := wpi_list hF hd (h _ fun _ _ h => h)
theorem wpi_at {F : Fence} {n : Nat} {P : Program} {ops : Array Oper} {Q : Exit → Act → World → Prop} {l : List Oper} {a : Act} {w : World} (hF : Wide F) (hd : l.all noDefer = true)
    (h : ∀ K : Act → World → Prop, (∀ a w, Q .normal a w → K a w) → wpList P ops (Only K) l a w) : wpListIn F n P ops Q l a w := list_in hF (fun _ _ h => h) l hd a w (h _ fun _ _ h => h)
theorem zip_two (p q : Tmp) (v u : Value) (t : Array Value) : (#[p, q].zip #[v, u]).foldl (fun t (p, v) => t.setIfInBounds p v) t = (t.setIfInBounds p v).setIfInBounds q u := by simp
def lastE (gs : List (List Event)) (k : Nat) : Int := match k with | 0 => 0 | k + 1 => atE ((gs[k]?).getD [])
def KsPhi (gs : List (List Event)) (s : List Event) (vW : Value) (b2 b3 b5 b6 : Nat) (k : Nat) (L : List Asn) : Prop :=
  L = [Blk false b5 #[.int .i64 (aheadN gs k : Nat)] 3, Blk false b6 #[.int .i64 (lastE gs k)] 3, Blk false b3 #[vW] 22, Sl true Event.cells 7 vW s, Blk false b2 #[.bool false] 4]
def KsRel (w : World) (T : List Asn) (X : Asn) (n0 : Nat) (la : Int) (g : List Event) (s : List Event) (vg vW : Value) (b2 b3 b5 b6 : Nat) (i : Value) (wr : World) : Prop :=
  ∃ j : Nat, j ≤ g.length ∧ i = .int .i64 j ∧ St (fun _ => False) w wr (Sl true Event.cells 7 vg g :: (T ++ [Blk false b5 #[.int .i64 (n0 : Nat)] 3, Blk false b6 #[.int .i64 la] 3, Blk false b3 #[vW] 22, Sl true Event.cells 7 vW s, Blk false b2 #[.bool false] 4, X]))
set_option maxRecDepth 100000 in
set_option maxHeartbeats 16000000 in
theorem keysSort_calls (v : Value) (l : List Event) (w : World) (F : Nat → Prop) (h : (Sl true Event.cells 7 v l).at_ w F) : Calls Try.prog 4 #[v] w fun r w' => r = .returned (.bool true) ∧ Below w.heap.size w w' := by
  have S : St (fun _ => False) w w [Sl true Event.cells 7 v l] := (St.init _ w).share rfl rfl h
  obtain ⟨ad, cp, rfl, _⟩ := (S.sl 0 rfl).elim fun _ h => h.form
  clear h
  refine calls_marks Try.func4 rfl ?_
  simp only [Try.ntmps4, List.size_toArray, List.length_cons, List.length_nil, Nat.reduceAdd, Nat.reduceSub, Array.replicate_succ, Array.replicate_zero, List.push_toArray, List.append_toArray, List.nil_append, List.cons_append]
  by_cases g1 : (60 : Int) < l.length
  · go_wp2_with first
      | go_skip
      | ((with_reducible refine wpList_skip ?hw ?_); (case hw => with_unfolding_all rfl); simp only [Act.put, List.setIfInBounds_toArray, List.set_cons_succ, List.set_cons_zero])
      | ((with_reducible apply wps_alloc1 (E := 4) S); (case hz => exact Try.zeroValue4); (case h1 => rfl); clear S; intro b2 wz S)
      | (go_at_call 10; refine Calls.mono (awake_calls _) ?_; rintro e wz ⟨rfl, hE⟩; replace S := S.ext (Keep.of_below hE); clear hE)
      | ((with_reducible apply wps_store S 0); (case hx => rfl); (case hy => rfl); (case hi => rfl); (case hT => decide +kernel); (case h1 => rfl); (case hn => exact Nat.le_of_ble_eq_true rfl); clear S; intro wz S; simp only [List.set_cons_zero, List.setIfInBounds_toArray] at S)
      | ((with_reducible refine tot_done ?ht ?_); (case ht => kernel_rfl))
      | ((with_reducible apply wps_text S); (case hm => kernel_rfl); (case hB => decide +kernel); clear S; intro wz S)
      | ((with_reducible apply wps_load S 0); (case hx => rfl); (case hi => rfl); (case hT => decide +kernel); (case hu => rfl))
    exact leaves_ret rfl (results1 rfl (S.res1 0 rfl rfl (by kernel_rfl))) ⟨rfl, S.below⟩
  have hl : l.length ≤ 65536 := by omega
  have HS := Lib.hid fun w F h => sort_calls (.slice ad l.length cp) l w F h hl
  have HR := Lib.hid fun w F h => rsort_calls (.slice ad l.length cp) l w F h hl
  have HB := Lib.hid fun w F h => batches_calls (.slice ad l.length cp) l w F h hl
  have hlen := sortE_len l
  have hs60 : (sortE l).length ≤ 60 := by omega
  have HE : Hid (∀ v1 v2 w F1 F2, (Sl true Event.cells 7 v1 (sortE l)).at_ w F1 → (Sl true Event.cells 7 v2 (sortE l)).at_ w F2 → Calls Try.prog 12 #[v1, v2] w fun r w' => r = .returned (.bool true) ∧ Below w.heap.size w w') := fun v1 v2 w F1 F2 h1 h2 => by
    have := evseq_calls v1 v2 (sortE l) (sortE l) w F1 F2 h1 h2 (by omega) (by omega)
    rwa [decide_eq_true rfl] at this
  have Hlen := Lib.hid hlen
  clear hlen
  have hq : ∀ (w : World) (b : Nat), (binOp .eql 25 (.func (.func 35) #[] #[.pointer (some ⟨b, 0, none⟩)]) .nilFunc).run Try.prog w = .ok (.bool false) w := fun w b => run_eql_func_nil w _ _ _ Try.underlying25
  go_wp2_with first
    | go_skip
    | ((with_reducible refine wpList_skip ?hw ?_); (case hw => with_unfolding_all rfl); simp only [Act.put, List.setIfInBounds_toArray, List.set_cons_succ, List.set_cons_zero])
    | ((with_reducible apply wps_alloc1 (E := 4) S); (case hz => exact Try.zeroValue4); (case h1 => rfl); clear S; intro b2 wz S)
    | ((with_reducible apply wps_alloc1 (E := 22) S); (case hz => exact Try.zeroValue22); (case h1 => rfl); clear S; intro b3 wz S)
    | (go_at_call 14; refine Calls.mono (HR.out _ _ (S.get (i := 1) rfl).choose_spec) ?_; rintro e wz ⟨ad3, c3, rfl, T⟩; replace S := (S.join T rfl).freeze true 0 ecells rfl; clear T; simp only [List.cons_append, List.nil_append, List.set_cons_zero] at S)
    | ((with_reducible apply wps_store (u := .slice ad3 l.length c3) S 0); (case hx => rfl); (case hy => rfl); (case hi => rfl); (case hT => decide +kernel); (case h1 => rfl); (case hn => exact Nat.le_of_ble_eq_true rfl); clear S; intro wz S; simp only [List.set_cons_zero, List.setIfInBounds_toArray] at S)
    | ((with_reducible refine tot_done ?ht ?_); (case ht => kernel_rfl))
    | ((with_reducible apply wps_load S 0); (case hx => rfl); (case hi => rfl); (case hT => decide +kernel); (case hu => rfl))
  simp only [Act.put, List.setIfInBounds_toArray, List.set_cons_succ, List.set_cons_zero] at S ⊢
  (refine wp_region_w (soft := [0, 2]) S ?hm ?hB ?_); (case hm => kernel_rfl); (case hB => decide +kernel); clear S
  iterate 2
    (with_reducible apply softs_cons)
    (case hw =>
      (with_reducible apply soft_of); (case hi => rfl)
      intro T wz S
      simp only [List.cons_append, List.nil_append] at S
      go_wp2_with first
        | go_skip
        | ((with_reducible apply wps_load S 0); (case hx => rfl); (case hi => rfl); (case hT => decide +kernel); (case hu => rfl))
        | (go_at_call 13; refine Calls.mono (HS.out _ _ (S.get (i := 3) rfl).choose_spec) ?_; rintro e wz ⟨ad4, c4, rfl, T⟩; replace S := S.join T rfl; clear T; simp only [List.cons_append, List.nil_append] at S)
        | (go_at_call 12; refine Calls.mono (HE.out _ _ _ _ _ (own_sl (sh := true) ecells (S.get (i := 4) rfl).choose_spec) (S.get (i := 1) rfl).choose_spec) ?_; rintro e wz ⟨rfl, hE⟩; replace S := S.ext (Keep.of_below hE); clear hE)
        | ((with_reducible refine tot_done ?ht ?_); (case ht => kernel_rfl))
        | ((with_reducible apply wps_alloc1 (E := 3) S); (case hz => exact Try.zeroValue3); (case h1 => rfl); clear S; intro bz wz S)
        | ((with_reducible apply wps_alloc1 (E := 4) S); (case hz => exact Try.zeroValue4); (case h1 => rfl); clear S; intro bz wz S)
        | ((with_reducible apply wps_alloc1 (E := 22) S); (case hz => exact Try.zeroValue22); (case h1 => rfl); clear S; intro bz wz S)
        | ((with_reducible apply wps_load S 0); (case hx => rfl); (case hi => rfl); (case hT => decide +kernel); (case hu => rfl))
      exact ⟨rfl, S⟩)
    (case hs => exact ⟨_, rfl, by kernel_rfl⟩)
  refine softs_nil ?_
  (with_reducible apply W_hard1 (i := 1)); (case hn => rfl); (case hr => decide +kernel)
  intro wz S
  (with_reducible apply hard_of); (case hi => rfl)
  simp only [List.cons_append, List.nil_append] at S
  go_wp2_with first
    | go_skip
    | ((with_reducible apply wps_load S 0); (case hx => rfl); (case hi => rfl); (case hT => decide +kernel); (case hu => rfl))
    | (go_at_call 13; refine Calls.mono (HS.out _ _ (S.get (i := 3) rfl).choose_spec) ?_; rintro e wz ⟨ad4, c4, rfl, T⟩; replace S := S.join T rfl; clear T; simp only [List.cons_append, List.nil_append] at S)
    | (go_at_call 12; refine Calls.mono (HE.out _ _ _ _ _ (own_sl (sh := true) ecells (S.get (i := 4) rfl).choose_spec) (S.get (i := 1) rfl).choose_spec) ?_; rintro e wz ⟨rfl, hE⟩; replace S := S.ext (Keep.of_below hE); clear hE)
    | ((with_reducible refine tot_done ?ht ?_); (case ht => kernel_rfl))
    | ((with_reducible apply wps_alloc1 (E := 3) S); (case hz => exact Try.zeroValue3); (case h1 => rfl); clear S; intro bz wz S)
    | ((with_reducible apply wps_alloc1 (E := 4) S); (case hz => exact Try.zeroValue4); (case h1 => rfl); clear S; intro bz wz S)
    | ((with_reducible apply wps_alloc1 (E := 22) S); (case hz => exact Try.zeroValue22); (case h1 => rfl); clear S; intro bz wz S)
    | ((with_reducible apply wps_load S 0); (case hx => rfl); (case hi => rfl); (case hT => decide +kernel); (case hu => rfl))
  refine ⟨_, S.pick [1, 2, 3, 4, 0] rfl, ?_⟩
  clear S
  (with_reducible apply W_hard1 (i := 3)); (case hn => rfl); (case hr => decide +kernel)
  intro wz S
  (with_reducible apply hard_of); (case hi => rfl)
  simp only [List.cons_append, List.nil_append] at S
  go_wp2_with first
    | go_skip
    | ((with_reducible apply wps_load S 0); (case hx => rfl); (case hi => rfl); (case hT => decide +kernel); (case hu => rfl))
    | (go_at_call 13; refine Calls.mono (HS.out _ _ (S.get (i := 3) rfl).choose_spec) ?_; rintro e wz ⟨ad4, c4, rfl, T⟩; replace S := S.join T rfl; clear T; simp only [List.cons_append, List.nil_append] at S)
    | (go_at_call 12; refine Calls.mono (HE.out _ _ _ _ _ (own_sl (sh := true) ecells (S.get (i := 4) rfl).choose_spec) (S.get (i := 1) rfl).choose_spec) ?_; rintro e wz ⟨rfl, hE⟩; replace S := S.ext (Keep.of_below hE); clear hE)
    | ((with_reducible refine tot_done ?ht ?_); (case ht => kernel_rfl))
    | ((with_reducible apply wps_alloc1 (E := 3) S); (case hz => exact Try.zeroValue3); (case h1 => rfl); clear S; intro bz wz S)
    | ((with_reducible apply wps_alloc1 (E := 4) S); (case hz => exact Try.zeroValue4); (case h1 => rfl); clear S; intro bz wz S)
    | ((with_reducible apply wps_alloc1 (E := 22) S); (case hz => exact Try.zeroValue22); (case h1 => rfl); clear S; intro bz wz S)
    | ((with_reducible apply wps_load S 0); (case hx => rfl); (case hi => rfl); (case hT => decide +kernel); (case hu => rfl))
  refine ⟨_, S, ?_⟩
  clear S
  (refine W_mid (f := 0) (soft := [4]) rfl ?hB ?_); (case hB => decide +kernel)
  iterate 1
    (with_reducible apply softs_cons)
    (case hw =>
      (with_reducible apply soft_of); (case hi => rfl)
      intro T wz S
      simp only [List.cons_append, List.nil_append] at S
      go_wp2_with first
        | go_skip
        | ((with_reducible apply wps_load S 0); (case hx => rfl); (case hi => rfl); (case hT => decide +kernel); (case hu => rfl))
        | (go_at_call 13; refine Calls.mono (HS.out _ _ (S.get (i := 3) rfl).choose_spec) ?_; rintro e wz ⟨ad4, c4, rfl, T⟩; replace S := S.join T rfl; clear T; simp only [List.cons_append, List.nil_append] at S)
        | (go_at_call 12; refine Calls.mono (HE.out _ _ _ _ _ (own_sl (sh := true) ecells (S.get (i := 4) rfl).choose_spec) (S.get (i := 1) rfl).choose_spec) ?_; rintro e wz ⟨rfl, hE⟩; replace S := S.ext (Keep.of_below hE); clear hE)
        | ((with_reducible refine tot_done ?ht ?_); (case ht => kernel_rfl))
        | ((with_reducible apply wps_alloc1 (E := 3) S); (case hz => exact Try.zeroValue3); (case h1 => rfl); clear S; intro bz wz S)
        | ((with_reducible apply wps_alloc1 (E := 4) S); (case hz => exact Try.zeroValue4); (case h1 => rfl); clear S; intro bz wz S)
        | ((with_reducible apply wps_alloc1 (E := 22) S); (case hz => exact Try.zeroValue22); (case h1 => rfl); clear S; intro bz wz S)
        | ((with_reducible apply wps_load S 0); (case hx => rfl); (case hi => rfl); (case hT => decide +kernel); (case hu => rfl))
      exact ⟨rfl, S⟩)
    (case hs => exact ⟨_, rfl, by kernel_rfl⟩)
  refine softs_nil ?_
  (with_reducible apply W_done); (case hn => rfl); (case hr => decide +kernel)
  intro wz S
  repeat (first | simp only at S | simp only [pick] at S | simp only [nth] at S | simp only [List.set_cons_succ] at S | simp only [List.set_cons_zero] at S | simp only [List.setIfInBounds_toArray] at S | simp only [setAll] at S | simp only [List.cons_append] at S | simp only [List.nil_append] at S | simp only [List.append_nil] at S)
  go_wp2_with first
    | go_skip
    | ((with_reducible refine wpList_skip ?hw ?_); (case hw => with_unfolding_all rfl); simp only [Act.put, List.setIfInBounds_toArray, List.set_cons_succ, List.set_cons_zero])
    | (go_at_call 11; refine Calls.mono (HB.out _ _ (S.get (i := 3) rfl).choose_spec) ?_; rintro e wz ⟨bt, ad5, c5, rfl, T⟩; replace S := S.join T rfl; clear T; simp only [List.cons_append, List.nil_append] at S)
    | ((with_reducible apply wps_alloc1 (E := 3) S); (case hz => exact Try.zeroValue3); (case h1 => rfl); clear S; first | (guard_hyp b5 : Nat; intro b6 wz S) | intro b5 wz S)
    | ((with_reducible apply wps_store (u := .int .i64 0) S 0); (case hx => rfl); (case hy => rfl); (case hi => rfl); (case hT => decide +kernel); (case h1 => rfl); (case hn => exact Nat.le_of_ble_eq_true rfl); clear S; intro wz S; simp only [List.set_cons_zero, List.setIfInBounds_toArray] at S)
    | ((with_reducible refine tot_done ?ht ?_); (case ht => kernel_rfl))
    | ((with_reducible apply wps_text S); (case hm => kernel_rfl); (case hB => decide +kernel); clear S; intro wz S)
    | ((with_reducible apply wps_load S 0); (case hx => rfl); (case hi => rfl); (case hT => decide +kernel); (case hu => rfl))
  replace S := (S.freeze true 3 ecells rfl).weak (i := 2) (A' := Blk true bt #[.slice ad5 l.length c5] 22) rfl (fun e => by cases e) (fun F h => ⟨F, fun _ hb => hb, h⟩)
  replace S := S.pick [2, 3, 1, 0, 4, 5, 6] rfl
  simp only [List.set_cons_zero, List.set_cons_succ, pick, nth] at S
  rw [← Hlen.out] at S
  have Hs60 := Lib.hid hs60
  have Hl := Lib.hid hl
  clear hs60 hl
  clear HS HR HB hq g1
  have Hpw := Lib.hid (sortE_at l)
  have Hfl := Lib.hid (batches_flat _ (sortE l) (Nat.le_refl _))
  have Hms := Lib.hid (batches_mems _ (sortE l) (Nat.le_refl _))
  have Hrs := Lib.hid (batches_rise _ (sortE l) (Nat.le_refl _) Hpw.out)
  have HEq : Hid (∀ (xs : List Event), xs.length ≤ 60 → ∀ v1 v2 w F1 F2, (Sl true Event.cells 7 v1 xs).at_ w F1 → (Sl true Event.cells 7 v2 xs).at_ w F2 → Calls Try.prog 12 #[v1, v2] w fun r w' => r = .returned (.bool true) ∧ Below w.heap.size w w') := fun xs h v1 v2 w F1 F2 h1 h2 => by
    have := evseq_calls v1 v2 xs xs w F1 F2 h1 h2 (by omega) (by omega)
    rwa [decide_eq_true rfl] at this
  clear HE
  generalize sortE l = s at *
  refine wps_range (batches1_iter bt ad5 c5 s (by have := Hs60.out; omega)) S rfl (calls_enter Try.func35 (by kernel_rfl) rfl) (KsPhi (batchesE s) s (.slice ad3 s.length c3) b2 b3 b5 b6) (fun _ _ _ => False) rfl (fun x args N h => by obtain ⟨_, _, rfl, _⟩ := h; rfl) ?round ?done ?stop
  case stop => intro _ _ _ _ _ _ h; exact h.elim
  case round =>
    rintro lp2 D r k g args N L W hg ⟨a0, gv, rfl, ha0, rfl⟩ hL S
    unfold KsPhi at hL
    subst hL
    simp only [zip_two, List.setIfInBounds_toArray, List.set_cons_succ, List.set_cons_zero, List.cons_append, List.nil_append] at S ⊢
    have Hgj := Lib.hid hg
    have hgm := List.mem_of_getElem? hg
    have h1 := Hms.out g hgm
    have h2 := ahead_part Hfl.out hg
    obtain ⟨n0, hn0⟩ : ∃ n, aheadN (batchesE s) k = n := ⟨_, rfl⟩
    obtain ⟨la, hla⟩ : ∃ n, lastE (batchesE s) k = n := ⟨_, rfl⟩
    have hlast : n0 ≠ 0 → la < a0 := fun hne => by
      cases k with
      | zero => exact absurd hn0.symm (by simpa [aheadN] using hne)
      | succ k =>
        obtain ⟨k1, k2⟩ := List.getElem?_eq_some_iff.1 hg
        have := List.pairwise_iff_getElem.1 Hrs.out k (k + 1) (by omega) k1 (by omega)
        rw [k2] at this
        rw [← hla, ha0]
        show atE (((batchesE s)[k]?).getD []) < atE g
        rw [List.getElem?_eq_getElem (by omega), Option.getD_some]
        exact this
    rw [hn0, hla] at S
    rw [hn0] at h2
    have Hn0 := Lib.hid hn0
    have Hg : Hid ((s.take (n0 + g.length)).drop n0 = g) := by show _ = _; rw [List.drop_take, Nat.add_sub_cancel_left]; exact h2.2
    have Hga := Lib.hid h1.2.2
    have hg60 : n0 + g.length ≤ s.length := h2.1
    have hs60 := Hs60.out
    have k0 : (((g.length : Nat) : Int) == 0) = false := by have := h1.1; rw [beq_eq_false_iff_ne]; omega
    have k3 : decide ((s.length : Int) < n0 + g.length) = false := decide_eq_false (by omega)
    have k3n : decide (s.length < n0 + g.length) = false := decide_eq_false (by omega)
    have Ha0 := Lib.hid ha0
    have hgl : g.length ≤ 60 := by omega
    have HQ := Lib.hid (HEq.out g hgl)
    have hgp : 0 < g.length := h1.1
    clear h1 h2 hgm hg hn0 hla ha0
    obtain ⟨ag, cg, rfl, _⟩ := (S.ownsl ecells 0 rfl).elim fun _ h => h.form
    replace S := S.freeze true 0 ecells rfl
    simp only [List.set_cons_zero] at S
    gi_wp2_with first
      | (refine wpi_at (.inr ⟨_, rfl⟩) rfl fun K hK => ?_
         go_wp2_with first
           | go_skip
           | ((with_reducible refine wpList_skip ?hw ?_); (case hw => with_unfolding_all rfl); simp only [Act.put, List.setIfInBounds_toArray, List.set_cons_succ, List.set_cons_zero])
           | ((with_reducible refine tot_done ?ht ?_); (case ht => kernel_rfl))
         refine hK _ _ ?_
         (try simp only [Act.put]); (try simp only [List.setIfInBounds_toArray]); (try simp only [List.set_cons_succ]); (try simp only [List.set_cons_zero])
         clear hK K)
    refine ⟨_, S.lastSplit rfl, fun r' W2 S => ?_⟩
    simp only [List.dropLast, List.cons_append, List.nil_append] at S
    by_cases hz : n0 = 0
    · have k1 : decide ((0 : Int) < n0) = false := decide_eq_false (by omega)
      have k1n : decide (0 < n0) = false := decide_eq_false (by omega)
      clear hlast hz
      gi_wp2_with first
        | (refine wpi_at (.inr ⟨_, rfl⟩) rfl fun K hK => ?_
           go_wp2_with first
             | go_skip
             | ((with_reducible refine wpList_skip ?hw ?_); (case hw => with_unfolding_all rfl); simp only [Act.put, List.setIfInBounds_toArray, List.set_cons_succ, List.set_cons_zero])
             | ((with_reducible refine tot_done ?ht ?_); (case ht => kernel_rfl))
             | ((with_reducible apply wps_load S 3); (case hx => rfl); (case hi => rfl); (case hT => decide +kernel); (case hu => rfl))
             | ((with_reducible apply wps_load S 4); (case hx => rfl); (case hi => rfl); (case hT => decide +kernel); (case hu => rfl))
             | ((with_reducible apply wps_load S 5); (case hx => rfl); (case hi => rfl); (case hT => decide +kernel); (case hu => rfl))
             | ((with_reducible apply wps_slice (E := 30) S 6 (l := n0) (u := (n0+g.length))); (case hx => rfl); (case hi => rfl); (case hT => exact Try.underlying22); (case hE => intro w; kernel_rfl); (case hlo => first | exact .inr rfl | exact .inl ⟨rfl, rfl⟩); (case hhi => first | exact .inr rfl | exact .inl ⟨rfl, rfl⟩); (case h1 => first | omega | (simp; omega)); (case h2 => first | omega | (simp; omega)); clear S; intro az nz cz hnz S)
             | (go_at_call 12; rw [Hg.out] at S; refine Calls.mono (HQ.out _ _ _ _ _ (S.get (i := 1) rfl).choose_spec (S.get (i := 0) rfl).choose_spec) ?_; rintro e wz ⟨rfl, hE⟩; replace S := S.ext (Keep.of_below hE); clear hE)
           refine hK _ _ ?_
           (try simp only [Act.put]); (try simp only [List.setIfInBounds_toArray]); (try simp only [List.set_cons_succ]); (try simp only [List.set_cons_zero])
           clear hK K)
      replace S := S.pick [1, 2, 3, 4, 5, 6, 7, 8, 9] rfl
      repeat (first | simp only at S | simp only [pick] at S | simp only [nth] at S | simp only [List.set_cons_succ] at S | simp only [List.set_cons_zero] at S | simp only [List.setIfInBounds_toArray] at S | simp only [setAll] at S | simp only [List.cons_append] at S | simp only [List.nil_append] at S | simp only [List.append_nil] at S)
      obtain ⟨Rg, og, rfl⟩ : ∃ R o, ag = some ⟨R, o, none⟩ := (S.sl 0 rfl).elim fun F h => h.head hgp
      gi_loopw [9] (fun i wr => KsRel w [Blk true bt #[.slice ad5 s.length c5] 22, Sl true Event.cells 7 (.slice ad5 s.length c5) s] (LoopA lp2 D r') n0 la g s (.slice (some ⟨Rg, og, none⟩) g.length cg) (.slice ad3 s.length c3) b2 b3 b5 b6 i wr) (fun i _ => g.length - (intOf i).toNat)
      case atStart => exact ⟨0, Nat.zero_le _, rfl, S⟩
      case round =>
        clear S
        obtain ⟨j, hj, rfl, S⟩ := hrel
        simp only [List.cons_append, List.nil_append] at S
        by_cases hlt : j < g.length
        · obtain ⟨x, hx⟩ : ∃ x, g[j]? = some x := ⟨_, List.getElem?_eq_getElem hlt⟩
          have hlt2 : (j : Int) < g.length := by omega
          have hxa : x.key.at_ = a0 := by rw [Ha0.out]; exact Hga.out x (List.mem_of_getElem? hx)
          have Hx := Lib.hid hx
          clear hx
          gi_wp2_with first
            | (refine wpi_at (.inr ⟨_, rfl⟩) rfl fun K hK => ?_
               go_wp2_with first
                 | go_skip
                 | ((with_reducible refine wpList_skip ?hw ?_); (case hw => with_unfolding_all rfl); simp only [Act.put, List.setIfInBounds_toArray, List.set_cons_succ, List.set_cons_zero])
                 | ((with_reducible refine tot_done ?ht ?_); (case ht => kernel_rfl))
                 | ((with_reducible apply wps_load_el S 0 (hj := Hx.out) (q := 0) (u := .int .i64 x.key.at_)); (case hx => rfl); (case hi => rfl); (case hn => omega); (case hT => decide +kernel); (case hu => rfl))
               refine hK _ _ ?_
               (try simp only [Act.put]); (try simp only [List.setIfInBounds_toArray]); (try simp only [List.set_cons_succ]); (try simp only [List.set_cons_zero])
               clear hK K)
          go_roundw
          case rel => exact ⟨j + 1, by omega, by go_num, S⟩
          case measure => first | (simp [intOf]; done) | (simp [intOf]; omega)
        · obtain rfl : j = g.length := by omega
          gi_wp2_with first
            | (refine wpi_at (.inr ⟨_, rfl⟩) rfl fun K hK => ?_
               go_wp2_with first
                 | go_skip
                 | ((with_reducible refine wpList_skip ?hw ?_); (case hw => with_unfolding_all rfl); simp only [Act.put, List.setIfInBounds_toArray, List.set_cons_succ, List.set_cons_zero])
                 | ((with_reducible refine tot_done ?ht ?_); (case ht => kernel_rfl))
                 | ((with_reducible apply wps_load S 3); (case hx => rfl); (case hi => rfl); (case hT => decide +kernel); (case hu => rfl))
                 | ((with_reducible apply wps_store (u := .int .i64 ((n0:Int) + g.length)) S 3); (case hx => rfl); (case hy => rfl); (case hi => rfl); (case hT => decide +kernel); (case h1 => rfl); (case hn => exact Nat.le_of_ble_eq_true rfl); clear S; intro wz S; simp only [List.set_cons_succ, List.set_cons_zero, List.setIfInBounds_toArray] at S)
                 | ((with_reducible apply wps_store (u := .int .i64 a0) S 4); (case hx => rfl); (case hy => rfl); (case hi => rfl); (case hT => decide +kernel); (case h1 => rfl); (case hn => exact Nat.le_of_ble_eq_true rfl); clear S; intro wz S; simp only [List.set_cons_succ, List.set_cons_zero, List.setIfInBounds_toArray] at S)
               refine hK _ _ ?_
               (try simp only [Act.put]); (try simp only [List.setIfInBounds_toArray]); (try simp only [List.set_cons_succ]); (try simp only [List.set_cons_zero])
               clear hK K)
          refine ⟨[Blk false b5 #[.int .i64 ((n0:Int) + g.length)] 3, Blk false b6 #[.int .i64 a0] 3, Blk false b3 #[.slice ad3 s.length c3] 22, Sl true Event.cells 7 (.slice ad3 s.length c3) s, Blk false b2 #[.bool false] 4], ?_, S.pick [1, 2, 3, 4, 5, 6, 7, 8] rfl⟩
          unfold KsPhi
          rw [ahead_step Hgj.out, Hn0.out, show lastE (batchesE s) (k + 1) = a0 by rw [Ha0.out]; show atE (((batchesE s)[k]?).getD []) = _; rw [Hgj.out]; rfl]
          rfl
    · have k1 : decide ((0 : Int) < n0) = true := decide_eq_true (by omega)
      have k1n : decide (0 < n0) = true := decide_eq_true (by omega)
      have k2 : decide (a0 ≤ la) = false := decide_eq_false (by have := hlast hz; omega)
      clear hlast hz
      gi_wp2_with first
        | (refine wpi_at (.inr ⟨_, rfl⟩) rfl fun K hK => ?_
           go_wp2_with first
             | go_skip
             | ((with_reducible refine wpList_skip ?hw ?_); (case hw => with_unfolding_all rfl); simp only [Act.put, List.setIfInBounds_toArray, List.set_cons_succ, List.set_cons_zero])
             | ((with_reducible refine tot_done ?ht ?_); (case ht => kernel_rfl))
             | ((with_reducible apply wps_load S 3); (case hx => rfl); (case hi => rfl); (case hT => decide +kernel); (case hu => rfl))
             | ((with_reducible apply wps_load S 4); (case hx => rfl); (case hi => rfl); (case hT => decide +kernel); (case hu => rfl))
             | ((with_reducible apply wps_load S 5); (case hx => rfl); (case hi => rfl); (case hT => decide +kernel); (case hu => rfl))
             | ((with_reducible apply wps_slice (E := 30) S 6 (l := n0) (u := (n0+g.length))); (case hx => rfl); (case hi => rfl); (case hT => exact Try.underlying22); (case hE => intro w; kernel_rfl); (case hlo => first | exact .inr rfl | exact .inl ⟨rfl, rfl⟩); (case hhi => first | exact .inr rfl | exact .inl ⟨rfl, rfl⟩); (case h1 => first | omega | (simp; omega)); (case h2 => first | omega | (simp; omega)); clear S; intro az nz cz hnz S)
             | (go_at_call 12; rw [Hg.out] at S; refine Calls.mono (HQ.out _ _ _ _ _ (S.get (i := 1) rfl).choose_spec (S.get (i := 0) rfl).choose_spec) ?_; rintro e wz ⟨rfl, hE⟩; replace S := S.ext (Keep.of_below hE); clear hE)
           refine hK _ _ ?_
           (try simp only [Act.put]); (try simp only [List.setIfInBounds_toArray]); (try simp only [List.set_cons_succ]); (try simp only [List.set_cons_zero])
           clear hK K)
      replace S := S.pick [1, 2, 3, 4, 5, 6, 7, 8, 9] rfl
      repeat (first | simp only at S | simp only [pick] at S | simp only [nth] at S | simp only [List.set_cons_succ] at S | simp only [List.set_cons_zero] at S | simp only [List.setIfInBounds_toArray] at S | simp only [setAll] at S | simp only [List.cons_append] at S | simp only [List.nil_append] at S | simp only [List.append_nil] at S)
      obtain ⟨Rg, og, rfl⟩ : ∃ R o, ag = some ⟨R, o, none⟩ := (S.sl 0 rfl).elim fun F h => h.head hgp
      gi_loopw [9] (fun i wr => KsRel w [Blk true bt #[.slice ad5 s.length c5] 22, Sl true Event.cells 7 (.slice ad5 s.length c5) s] (LoopA lp2 D r') n0 la g s (.slice (some ⟨Rg, og, none⟩) g.length cg) (.slice ad3 s.length c3) b2 b3 b5 b6 i wr) (fun i _ => g.length - (intOf i).toNat)
      case atStart => exact ⟨0, Nat.zero_le _, rfl, S⟩
      case round =>
        clear S
        obtain ⟨j, hj, rfl, S⟩ := hrel
        simp only [List.cons_append, List.nil_append] at S
        by_cases hlt : j < g.length
        · obtain ⟨x, hx⟩ : ∃ x, g[j]? = some x := ⟨_, List.getElem?_eq_getElem hlt⟩
          have hlt2 : (j : Int) < g.length := by omega
          have hxa : x.key.at_ = a0 := by rw [Ha0.out]; exact Hga.out x (List.mem_of_getElem? hx)
          have Hx := Lib.hid hx
          clear hx
          gi_wp2_with first
            | (refine wpi_at (.inr ⟨_, rfl⟩) rfl fun K hK => ?_
               go_wp2_with first
                 | go_skip
                 | ((with_reducible refine wpList_skip ?hw ?_); (case hw => with_unfolding_all rfl); simp only [Act.put, List.setIfInBounds_toArray, List.set_cons_succ, List.set_cons_zero])
                 | ((with_reducible refine tot_done ?ht ?_); (case ht => kernel_rfl))
                 | ((with_reducible apply wps_load_el S 0 (hj := Hx.out) (q := 0) (u := .int .i64 x.key.at_)); (case hx => rfl); (case hi => rfl); (case hn => omega); (case hT => decide +kernel); (case hu => rfl))
               refine hK _ _ ?_
               (try simp only [Act.put]); (try simp only [List.setIfInBounds_toArray]); (try simp only [List.set_cons_succ]); (try simp only [List.set_cons_zero])
               clear hK K)
          go_roundw
          case rel => exact ⟨j + 1, by omega, by go_num, S⟩
          case measure => first | (simp [intOf]; done) | (simp [intOf]; omega)
        · obtain rfl : j = g.length := by omega
          gi_wp2_with first
            | (refine wpi_at (.inr ⟨_, rfl⟩) rfl fun K hK => ?_
               go_wp2_with first
                 | go_skip
                 | ((with_reducible refine wpList_skip ?hw ?_); (case hw => with_unfolding_all rfl); simp only [Act.put, List.setIfInBounds_toArray, List.set_cons_succ, List.set_cons_zero])
                 | ((with_reducible refine tot_done ?ht ?_); (case ht => kernel_rfl))
                 | ((with_reducible apply wps_load S 3); (case hx => rfl); (case hi => rfl); (case hT => decide +kernel); (case hu => rfl))
                 | ((with_reducible apply wps_store (u := .int .i64 ((n0:Int) + g.length)) S 3); (case hx => rfl); (case hy => rfl); (case hi => rfl); (case hT => decide +kernel); (case h1 => rfl); (case hn => exact Nat.le_of_ble_eq_true rfl); clear S; intro wz S; simp only [List.set_cons_succ, List.set_cons_zero, List.setIfInBounds_toArray] at S)
                 | ((with_reducible apply wps_store (u := .int .i64 a0) S 4); (case hx => rfl); (case hy => rfl); (case hi => rfl); (case hT => decide +kernel); (case h1 => rfl); (case hn => exact Nat.le_of_ble_eq_true rfl); clear S; intro wz S; simp only [List.set_cons_succ, List.set_cons_zero, List.setIfInBounds_toArray] at S)
               refine hK _ _ ?_
               (try simp only [Act.put]); (try simp only [List.setIfInBounds_toArray]); (try simp only [List.set_cons_succ]); (try simp only [List.set_cons_zero])
               clear hK K)
          refine ⟨[Blk false b5 #[.int .i64 ((n0:Int) + g.length)] 3, Blk false b6 #[.int .i64 a0] 3, Blk false b3 #[.slice ad3 s.length c3] 22, Sl true Event.cells 7 (.slice ad3 s.length c3) s, Blk false b2 #[.bool false] 4], ?_, S.pick [1, 2, 3, 4, 5, 6, 7, 8] rfl⟩
          unfold KsPhi
          rw [ahead_step Hgj.out, Hn0.out, show lastE (batchesE s) (k + 1) = a0 by rw [Ha0.out]; show atE (((batchesE s)[k]?).getD []) = _; rw [Hgj.out]; rfl]
          rfl
  case done =>
    rintro D W L hL S
    unfold KsPhi at hL
    subst hL
    rw [ahead_all Hfl.out] at S
    simp only [List.cons_append, List.nil_append] at S
    have kq : (((s.length : Nat) : Int) == (s.length : Nat)) = true := by simp
    go_wp2_with first
      | go_skip
      | ((with_reducible refine wpList_skip ?hw ?_); (case hw => with_unfolding_all rfl); simp only [Act.put, List.setIfInBounds_toArray, List.set_cons_succ, List.set_cons_zero])
      | ((with_reducible refine tot_done ?ht ?_); (case ht => kernel_rfl))
      | ((with_reducible apply wps_load S 3); (case hx => rfl); (case hi => rfl); (case hT => decide +kernel); (case hu => rfl))
      | ((with_reducible apply wps_load S 5); (case hx => rfl); (case hi => rfl); (case hT => decide +kernel); (case hu => rfl))
      | (go_at_call 10; refine Calls.mono (awake_calls _) ?_; rintro e wz ⟨rfl, hE⟩; replace S := S.ext (Keep.of_below hE); clear hE)
      | ((with_reducible apply wps_store (u := .bool true) S 7); (case hx => rfl); (case hy => rfl); (case hi => rfl); (case hT => decide +kernel); (case h1 => rfl); (case hn => exact Nat.le_of_ble_eq_true rfl); clear S; intro wz S; simp only [List.set_cons_succ, List.set_cons_zero, List.setIfInBounds_toArray] at S)
    refine leaves_ret1 S rfl fun w' S => ⟨_, results1 rfl (S.res1 6 rfl rfl (by kernel_rfl)), ⟨rfl, S.below⟩⟩
end Go.Proofs.Ytcbdacmdmaoegaa

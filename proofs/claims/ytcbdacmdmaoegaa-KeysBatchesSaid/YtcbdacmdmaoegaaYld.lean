import Derived.Test.YtcbdacmdmaoegaaAny3
import Derived.Test.YtcbdacmdmaoegaaRange
/- A region that draws its order and calls 'yield' once, behind all else that hangs on memory. Over any program. -/
namespace Go.Proofs.Ytcbdacmdmaoegaa.Mem
open Go Go.RowKit Reg

def NoQ : Exit → Act → World → Prop := fun _ _ _ => False
section
variable {P : Program} {ops : Array Oper} {Q : Exit → Act → World → Prop} {y : Nat} {G : Nat → Prop} {w0 : World} {L : List Asn}
/-- As W, but that the operation y is one that asks for a round. -/
def WI (P : Program) (ops : Array Oper) (Q : Exit → Act → World → Prop) (y : Nat) (G : Nat → Prop) (w0 : World) (L : List Asn) : Nat → List Asn → Array Bool → Act → Prop
  | 0, T, listed, a => Region.ready .any ops listed = [] ∧ ∀ w, St G w0 w (L ++ T) → Q .normal a w
  | f + 1, T, listed, a => ∀ w, St G w0 w (L ++ T) → (Region.ready .any ops listed = [] → Q .normal a w) ∧
      ∀ i ∈ Region.ready .any ops listed, (i = y → wpOpIn Fence.wide 0 P ops Q i (wpAnyIn Fence.wide 0 P .any ops Q f (listed.setIfInBounds i true)) a w) ∧
        (i ≠ y → wpOp P ops (Tot [] NoQ) i (fun a' w' => ∃ T', St G w0 w' (L ++ T') ∧ WI P ops Q y G w0 L f T' (listed.setIfInBounds i true) a') a w)
theorem wpOp_in {i : Nat} {K : Act → World → Prop} {a : Act} {w : World} (hd : ∀ o, ops[i]? = some o → noDefer o = true) (h : wpOp P ops (Tot [] NoQ) i K a w) : wpOpIn Fence.wide 0 P ops Q i K a w := by
  unfold wpOp at h
  unfold wpOpIn
  cases ho : ops[i]? with
  | none => simp only [ho] at h ⊢; exact h
  | some o =>
    simp only [ho] at h ⊢
    split
    · rename_i hw
      rw [if_pos hw] at h
      rcases h with h | ⟨_, h⟩
      case inr => exact absurd h not_lets
      refine oper_in (K := fun _ _ => False) (.inl rfl) (hd o ho) ?_
      unfold Oper.wp at *
      generalize (execOp a.eval o).run P w = r at *
      cases r with
      | ok n w' =>
        cases n <;> simp only [Oper.upon] at h ⊢ <;> first | exact h | (refine Calls.mono h fun e w'' he => ?_; cases e <;> first | exact he | exact absurd he not_lets | exact (he : False).elim)
      | halt x w' => cases x <;> simp only [Oper.upon] at h ⊢ <;> exact h.elim
    · rename_i hw
      rw [if_neg hw] at h
      exact ⟨fun _ _ => trivial, h⟩
theorem WI_any (hd : ∀ i o, i ≠ y → ops[i]? = some o → noDefer o = true) : ∀ (f : Nat) (T : List Asn) (listed : Array Bool) (a : Act) (w : World), WI P ops Q y G w0 L f T listed a → St G w0 w (L ++ T) → wpAnyIn Fence.wide 0 P .any ops Q f listed a w
  | 0, _, _, _, w, h, S => ⟨h.1, h.2 w S⟩
  | f + 1, _, _, _, w, h, S => ⟨(h w S).1, fun i hi => by
      by_cases e : i = y
      · exact ((h w S).2 i hi).1 e
      · exact wpOpIn_mono (fun a' w' ⟨T', S', h'⟩ => WI_any hd f T' _ a' w' h' S') (wpOp_in (fun o => hd i o e) (((h w S).2 i hi).2 e))⟩
theorem WI_soft (hB : ordB ops = true) {i : Nat} {oi : Oper} {v : Value} (hi : ops[i]? = some oi) (hiy : i ≠ y) (hym : ((masks .any ops.toList []).getD y 0).testBit i = true) : ∀ (f : Nat) (T : List Asn) (listed : Array Bool) (a : Act), Closed .any ops listed → i ∈ Region.ready .any ops listed →
    Soft P ops NoQ G w0 L i a (a.put oi.dst v) → WI P ops Q y G w0 L f T (listed.setIfInBounds i true) (a.put oi.dst v) → WI P ops Q y G w0 L (f + 1) T listed a := by
  obtain ⟨hsel, hap⟩ := ordB_spec hB
  intro f
  induction f with
  | zero =>
    intro T listed a hcl hr hs hw w S
    refine ⟨fun h => by rw [h] at hr; (cases hr), fun j hj => ?_⟩
    by_cases hji : j = i
    · subst hji
      exact ⟨fun e => absurd e hiy, fun _ => wpOp_mono (fun a' w' ⟨e, S'⟩ => ⟨T, S', e ▸ hw⟩) (hs T w S)⟩
    · have := ready_mono hj hji
      rw [hw.1] at this
      cases this
  | succ f ih =>
    intro T listed a hcl hr hs hw w S
    refine ⟨fun h => by rw [h] at hr; (cases hr), fun j hj => ?_⟩
    by_cases hji : j = i
    · subst hji
      exact ⟨fun e => absurd e hiy, fun _ => wpOp_mono (fun a' w' ⟨e, S'⟩ => ⟨T, S', e ▸ hw⟩) (hs T w S)⟩
    · obtain ⟨hjun, oj, hoj, hall⟩ := mem_ready.1 hj
      obtain ⟨hiun, oi', hoi', halli⟩ := mem_ready.1 hr
      have e1 : ((masks .any ops.toList []).getD j 0).testBit i = false := by
        cases hb : ((masks .any ops.toList []).getD j 0).testBit i with
        | false => rfl
        | true => have := mask_listed hcl j oj hoj hall hb; rw [unlisted hiun] at this; cases this
      have e2 : ((masks .any ops.toList []).getD i 0).testBit j = false := by
        cases hb : ((masks .any ops.toList []).getD i 0).testBit j with
        | false => rfl
        | true => have := mask_listed hcl i oi' hoi' halli hb; rw [unlisted hjun] at this; cases this
      have hjy : j ≠ y := fun e => by subst e; rw [hym] at e1; cases e1
      obtain ⟨h1, h2, h3⟩ := Oper.apart_spec (hap i j oi oj (Ne.symm hji) hi hoj e1 e2)
      have H := ((hw w S).2 j (ready_mono hj hji)).2 hjy
      have H2 := (wpOp_ride (P := P) (Q := NoQ) (φ := fun b => b.put oi.dst v) (a := a) (w := w) hoj (execOp_put oj (hsel j oj hoj) a oi.dst v h1) (wanted_put oj a oi.dst v h1) (fun u => Act.put_comm a v u h2)
        (fun d u => by rw [Act.put_defers]; exact Act.put_comm _ v u h2)).1 H
      have hcl' := hcl.set hj
      have hr' := ready_mono hr (Ne.symm hji)
      have soft : ∀ (b : Act), execOp b.eval oi = execOp a.eval oi → Region.wanted oi (yielded ops b.tmps) = Region.wanted oi (yielded ops a.tmps) → b.tmps.size = a.tmps.size → Soft P ops NoQ G w0 L i b (b.put oi.dst v) :=
        fun b he hwn hsz T' w' S' => soft_ride hi he hwn hsz (hs T' w' S')
      refine ⟨fun e => absurd e hjy, fun _ => wpOp_mono (fun a' w' ⟨⟨T', S', h'⟩, hf⟩ => ⟨T', S', ih T' _ a' hcl' hr' ?_ ?_⟩) (wpOp_forms hoj H2)⟩
      · rcases hf with ⟨u, rfl⟩ | ⟨d, u, rfl⟩
        · exact soft _ (execOp_put oi (hsel i oi hi) a oj.dst u h3) (wanted_put oi a oj.dst u h3) (put_size _ _ _)
        · exact soft _ (by rw [execOp_put oi (hsel i oi hi) _ oj.dst u h3, eval_defers]) (by rw [wanted_put oi _ oj.dst u h3]) (put_size _ _ _)
      · rw [Array.setIfInBounds_comm _ _ hji]; exact h'
/-- All these come ahead of y. -/
def aheadB (ops : Array Oper) (y : Nat) (soft : List Nat) : Bool := soft.all fun i => !(i == y) && ((masks .any ops.toList []).getD y 0).testBit i
theorem WI_softs (hB : ordB ops = true) : ∀ (soft : List Nat) (f : Nat) (T : List Asn) (listed : Array Bool) (a : Act), aheadB ops y soft = true → Closed .any ops listed → readyAll ops soft listed = true →
    Softs P ops NoQ G w0 L (fun A => WI P ops Q y G w0 L f T (after soft listed) A) soft a → WI P ops Q y G w0 L (f + soft.length) T listed a
  | [], _, _, _, _, _, _, _, h => h
  | i :: l, f, T, listed, a, hy, hcl, hr, ⟨A, hs, ⟨o, ho, hA⟩, h⟩ => by
    simp only [aheadB, List.all_cons, Bool.and_eq_true, Bool.not_eq_true', beq_eq_false_iff_ne] at hy
    simp only [readyAll, Bool.and_eq_true, List.contains_iff_mem] at hr
    have := WI_softs hB l f T _ A hy.2 (hcl.set hr.1) hr.2 h
    rw [hA] at hs this
    exact WI_soft hB ho hy.1.1 hy.1.2 (f + l.length) T listed a hcl hr.1 hs this
def plainB (ops : Array Oper) (y : Nat) : Bool := (List.range ops.size).all fun i => i == y || ((ops[i]?).map noDefer).getD true
theorem wp_region_yi {id : Nat} {soft : List Nat} {a : Act} {w : World} (y : Nat) (S : St G w0 w L) (hm : P.follows .mixedOrders = true) (hB : (softB ops soft && aheadB ops y soft && plainB ops y) = true)
    (h : Softs P ops NoQ G w0 L (fun A => WI P ops Q y G w0 L (ops.size - soft.length) [] (after soft (Array.replicate ops.size false)) A) soft a) : (Code.region id ops true).wp P Q a w := by
  simp only [softB, Bool.and_eq_true] at hB
  have hc : Closed .any ops (Array.replicate ops.size false) := fun j oj _ hl => by
    rw [Array.getD_eq_getD_getElem?] at hl
    by_cases hj : j < ops.size
    · rw [Array.getElem?_replicate, if_pos hj] at hl; cases hl
    · rw [Array.getElem?_replicate, if_neg hj] at hl; cases hl
  have hle := Nat.le_of_ble_eq_true hB.1.1.2
  have hd : ∀ i o, i ≠ y → ops[i]? = some o → noDefer o = true := fun i o hi ho => by
    have := List.all_eq_true.1 hB.2 i (List.mem_range.2 (Array.getElem?_eq_some_iff.1 ho).1)
    rw [ho] at this
    simpa [hi] using this
  have := WI_softs hB.1.1.1.1 soft (ops.size - soft.length) [] _ a hB.1.2 hc hB.1.1.1.2 h
  rw [show ops.size - soft.length + soft.length = ops.size by omega] at this
  exact (wpIn_wide (n := 0)).1 (wpIn_region_any hm (WI_any hd _ [] _ a _ this (by simpa using S.ext (keep_drew w))))
theorem WI_mid {n f : Nat} {soft : List Nat} {T : List Asn} {listed : Array Bool} {a : Act} (hn : n = f + soft.length) (hB : (ordB ops && closedB ops listed && readyAll ops soft listed && aheadB ops y soft) = true)
    (h : Softs P ops NoQ G w0 L (fun A => WI P ops Q y G w0 L f T (after soft listed) A) soft a) : WI P ops Q y G w0 L n T listed a := by
  simp only [Bool.and_eq_true] at hB
  rw [hn]
  exact WI_softs hB.1.1.1 soft f T listed a hB.2 (closed_of hB.1.1.2) hB.1.2 h
theorem softsI_nil {f : Nat} {T : List Asn} {listed : Array Bool} {a : Act} (h : WI P ops Q y G w0 L f T listed a) : Softs P ops NoQ G w0 L (fun A => WI P ops Q y G w0 L f T listed A) [] a := h
theorem WI_hard1 {n f i : Nat} (hn : n = f + 1) {T : List Asn} {listed : Array Bool} {a : Act} (hr : Region.ready .any ops listed = [i]) (hiy : (i == y) = false)
    (h : ∀ w, St G w0 w (L ++ T) → wpOp P ops (Tot [] NoQ) i (fun a' w' => ∃ T', St G w0 w' (L ++ T') ∧ WI P ops Q y G w0 L f T' (listed.setIfInBounds i true) a') a w) : WI P ops Q y G w0 L n T listed a := by
  subst hn
  exact fun w S => ⟨fun e => by rw [hr] at e; (cases e), fun j hj => by rw [hr] at hj; simp at hj; subst hj; exact ⟨fun e => by rw [e] at hiy; simp at hiy, fun _ => h w S⟩⟩
theorem WI_yield {n f : Nat} (hn : n = f + 1) {T : List Asn} {listed : Array Bool} {a : Act} (hr : Region.ready .any ops listed = [y])
    (h : ∀ w, St G w0 w (L ++ T) → wpOpIn Fence.wide 0 P ops Q y (wpAnyIn Fence.wide 0 P .any ops Q f (listed.setIfInBounds y true)) a w) : WI P ops Q y G w0 L n T listed a := by
  subst hn
  exact fun w S => ⟨fun e => by rw [hr] at e; (cases e), fun j hj => by rw [hr] at hj; simp at hj; subst hj; exact ⟨fun _ => h w S, fun e => absurd rfl e⟩⟩
/-- One more operation, behind the yield. -/
theorem anyIn_one {f i : Nat} {o : Oper} {listed : Array Bool} {a : Act} {w : World} (hi : opAt ops.toList i = some o) (hr : Region.ready .any ops listed = [i]) (hd : noDefer o = true)
    (h : wpList P ops (Tot [] fun _ a' w' => wpAnyIn Fence.wide 0 P .any ops Q f (listed.setIfInBounds i true) a' w') [o] a w) : wpAnyIn Fence.wide 0 P .any ops Q (f + 1) listed a w :=
  ⟨fun e => by rw [hr] at e; (cases e), fun j hj => by
    rw [hr] at hj; simp at hj; subst hj
    exact wpOp_in (fun o' ho' => by rw [opAt_arr hi] at ho'; cases ho'; exact hd) (op_list (opAt_arr hi) h fun _ _ h => h)⟩
theorem anyIn_done {listed : Array Bool} {a : Act} {w : World} (hr : Region.ready .any ops listed = []) (h : Q .normal a w) : wpAnyIn Fence.wide 0 P .any ops Q 0 listed a w := ⟨hr, h⟩
/-- The call of yield. -/
theorem wpOpIn_yield {l : Nat} {o : Oper} {x : Operand} {as : Array Operand} {ts : Array TypeId} {d : Option Tmp} {argl : List Value} {a : Act} {w : World} {R : Ending → World → Prop} {K : Act → World → Prop} (hi : opAt ops.toList y = some o)
    (ho : o.op = .call { callee := .value x, args := as, argTypes := ts }) (hdst : o.dst = d) (hg : o.guard = none) (hx : a.eval x = .func (.yield l) #[] #[]) (has : as.toList.map a.eval = argl) (hY : YieldAt Fence.wide 0 P l argl.toArray w R)
    (hR : ∀ e w', R e w' → ∃ v, e = .returned v ∧ K (a.put d v) w') : wpOpIn Fence.wide 0 P ops Q y K a w := by
  have has2 : as.map a.eval = argl.toArray := by rw [← Array.toList_inj]; simpa using has
  obtain ⟨fn, tmps, assign, body, hy, hround⟩ := hY
  unfold wpOpIn
  simp only [opAt_arr hi]
  have hw : Region.wanted o (yielded ops a.tmps) = true := by unfold Region.wanted; rw [hg]
  rw [if_pos hw]
  refine ⟨fun _ _ => trivial, ?_⟩
  have hs : o.semAt Fence.wide.round a.eval = execOp a.eval o := Oper.semAt_eq _ _ _ (fun c e => by rw [ho] at e; cases e)
  rw [hs]
  have hrun : (execOp a.eval o).run P w = .ok (.round l fn tmps assign body) w := by
    obtain ⟨dst, op, type, pos, af, guard⟩ := o
    simp only at ho
    subst ho
    simp only [execOp, resolve, hx, has2]
    simp [go_sem, invoke, hy]
  rw [hrun, Oper.uponIn_round]
  refine ⟨fun e => by simp [Fence.wide] at e, hround.mono fun e w' he => ?_⟩
  obtain ⟨v, rfl, hk⟩ := hR e w' he
  rw [hdst]
  exact hk
theorem WI_done {n : Nat} {T : List Asn} {listed : Array Bool} {a : Act} (hn : n = 0) (hr : Region.ready .any ops listed = []) (h : ∀ w, St G w0 w (L ++ T) → Q .normal a w) : WI P ops Q y G w0 L n T listed a := by subst hn; exact ⟨hr, h⟩
def HardQI (P : Program) (ops : Array Oper) (Q : Exit → Act → World → Prop) (y : Nat) (G : Nat → Prop) (w0 : World) (L : List Asn) (f : Nat) (listed : Array Bool) : Exit → Act → World → Prop := fun _ a' w' => ∃ T', St G w0 w' (L ++ T') ∧ WI P ops Q y G w0 L f T' listed a'
theorem hardI_of {i f : Nat} {o : Oper} {a : Act} {w : World} {listed : Array Bool} (hi : opAt ops.toList i = some o) (h : wpList P ops (Tot [] (HardQI P ops Q y G w0 L f listed)) [o] a w) :
    wpOp P ops (Tot [] NoQ) i (fun a' w' => ∃ T', St G w0 w' (L ++ T') ∧ WI P ops Q y G w0 L f T' listed a') a w := op_list (opAt_arr hi) h fun _ _ h => h
end
end Go.Proofs.Ytcbdacmdmaoegaa.Mem

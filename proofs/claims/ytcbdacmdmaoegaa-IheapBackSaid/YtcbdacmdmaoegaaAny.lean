import Derived.Test.YtcbdacmdmaoegaaOps2
/- A region that draws its order, whose operations' values do not hang on the order: 'soft' ones come to one value wherever the state holds, and keep it; what is left is walked in each order. Over any program. -/
namespace Go.Proofs.Ytcbdacmdmaoegaa.Mem
open Go Go.RowKit Reg

section
variable {P : Program} {ops : Array Oper} {Q : Exit → Act → World → Prop} {G : Nat → Prop} {w0 : World} {L : List Asn}

theorem wpOp_ride {φ : Act → Act} {j : Nat} {o : Oper} {K : Act → World → Prop} {a : Act} {w : World} (hj : ops[j]? = some o) (he : execOp (φ a).eval o = execOp a.eval o) (hw : Region.wanted o (yielded ops (φ a).tmps) = Region.wanted o (yielded ops a.tmps))
    (hp : ∀ v, (φ a).put o.dst v = φ (a.put o.dst v)) (hd : ∀ d v, ({ φ a with defers := d :: (φ a).defers } : Act).put o.dst v = φ (({ a with defers := d :: a.defers } : Act).put o.dst v)) :
    wpOp P ops (Tot [] Q) j K (φ a) w ↔ wpOp P ops (Tot [] Q) j (fun a' w' => K (φ a') w') a w := by
  unfold wpOp
  simp only [hj, hw]
  split
  · have hn : ∀ x : Prop, ¬ (x ∧ LetsOut (Tot [] Q)) := fun _ h => not_lets h.2
    rw [or_iff_left (hn _), or_iff_left (hn _)]
    unfold Oper.wp
    rw [he]
    generalize (execOp a.eval o).run P w = r
    cases r with
    | ok n w' =>
      cases n <;> simp only [Oper.upon, hp, hd]
      case enter f args =>
        constructor <;> intro h <;> refine Calls.mono h fun e w'' he => ?_ <;> cases e <;> first | exact he | exact absurd he not_lets | exact (he : False).elim
    | halt x w' => cases x <;> simp only [Oper.upon] <;> exact Iff.rfl
  · rw [hp]
/-- What an operation leaves behind of the slots. -/
theorem wpOp_forms {j : Nat} {o : Oper} {K : Act → World → Prop} {a : Act} {w : World} (hj : ops[j]? = some o) (h : wpOp P ops (Tot [] Q) j K a w) :
    wpOp P ops (Tot [] Q) j (fun a' w' => K a' w' ∧ ((∃ u, a' = a.put o.dst u) ∨ ∃ d u, a' = ({ a with defers := d :: a.defers } : Act).put o.dst u)) a w := by
  unfold wpOp at *
  simp only [hj] at *
  split at h
  · rename_i hw
    simp only [hw, if_true]
    rcases h with h | ⟨_, h⟩
    case inr => exact absurd h not_lets
    refine .inl ?_
    unfold Oper.wp at *
    generalize (execOp a.eval o).run P w = r at *
    cases r with
    | ok n w' =>
      cases n <;> simp only [Oper.upon] at h ⊢
      case value v => exact ⟨h, .inl ⟨v, rfl⟩⟩
      case skip => exact ⟨h, .inl ⟨undef, rfl⟩⟩
      case defer d => exact ⟨h, .inr ⟨d, undef, rfl⟩⟩
      case enter f args => refine Calls.mono h fun e w'' he => ?_; cases e <;> first | exact ⟨he, .inl ⟨_, rfl⟩⟩ | exact he
      case row r args => exact Rows.mono h fun v w'' he => ⟨he, .inl ⟨v, rfl⟩⟩
    | halt x w' => cases x <;> simp only [Oper.upon] at h ⊢ <;> exact h
  · rename_i hw
    simp only [hw]
    exact ⟨h, .inl ⟨undef, rfl⟩⟩

/-- The operations that may be taken in two orders stand apart. -/
def ordB (ops : Array Oper) : Bool :=
  Region.noSelect ops && (List.range ops.size).all fun i => (List.range ops.size).all fun j => i == j || ((masks .any ops.toList []).getD j 0).testBit i || ((masks .any ops.toList []).getD i 0).testBit j ||
    (match ops[i]?, ops[j]? with | some a, some b => a.apart ops b | _, _ => true)
/-- In each order, from each world of the state; what comes is put ahead. -/
def W (P : Program) (ops : Array Oper) (Q : Exit → Act → World → Prop) (G : Nat → Prop) (w0 : World) (L : List Asn) : Nat → List Asn → Array Bool → Act → Prop
  | 0, T, listed, a => Region.ready .any ops listed = [] ∧ ∀ w, St G w0 w (L ++ T) → Q .normal a w
  | f + 1, T, listed, a => ∀ w, St G w0 w (L ++ T) → (Region.ready .any ops listed = [] → Q .normal a w) ∧
      ∀ i ∈ Region.ready .any ops listed, wpOp P ops (Tot [] Q) i (fun a' w' => ∃ T', St G w0 w' (L ++ T') ∧ W P ops Q G w0 L f T' (listed.setIfInBounds i true) a') a w
theorem W_any : ∀ (f : Nat) (T : List Asn) (listed : Array Bool) (a : Act) (w : World), W P ops Q G w0 L f T listed a → St G w0 w (L ++ T) → wpAny P .any ops Q f listed a w
  | 0, _, _, _, w, h, S => ⟨h.1, h.2 w S⟩
  | f + 1, _, _, _, w, h, S => ⟨(h w S).1, fun i hi => wpOp_tot (ns := []) (fun a' w' ⟨T', S', h'⟩ => W_any f T' _ a' w' h' S') ((h w S).2 i hi)⟩
/-- It comes to this wherever the state holds, and keeps it. -/
def Soft (P : Program) (ops : Array Oper) (Q : Exit → Act → World → Prop) (G : Nat → Prop) (w0 : World) (L : List Asn) (i : Nat) (a A : Act) : Prop :=
  ∀ T w, St G w0 w (L ++ T) → wpOp P ops (Tot [] Q) i (fun a' w' => a' = A ∧ St G w0 w' (L ++ T)) a w
theorem noSelect_spec (h : Region.noSelect ops = true) {j : Nat} {o : Oper} (hj : ops[j]? = some o) : ∀ cs b, o.op ≠ .select cs b := by
  intro cs b e
  unfold Region.noSelect at h
  rw [Array.all_eq_true'] at h
  have := h o (Array.mem_of_getElem? hj)
  simp [e] at this
theorem ordB_spec (h : ordB ops = true) : (∀ (j : Nat) (o : Oper), ops[j]? = some o → ∀ cs b, o.op ≠ .select cs b) ∧
    ∀ (i j : Nat) (a b : Oper), i ≠ j → ops[i]? = some a → ops[j]? = some b → ((masks .any ops.toList []).getD j 0).testBit i = false → ((masks .any ops.toList []).getD i 0).testBit j = false → a.apart ops b = true := by
  simp only [ordB, Bool.and_eq_true] at h
  refine ⟨fun j o hj => noSelect_spec h.1 hj, fun i j a b hij hi hj h1 h2 => ?_⟩
  have := List.all_eq_true.1 (List.all_eq_true.1 h.2 i (List.mem_range.2 (Array.getElem?_eq_some_iff.1 hi).1)) j (List.mem_range.2 (Array.getElem?_eq_some_iff.1 hj).1)
  simp only [h1, h2, hi, hj, Bool.or_false, Bool.or_eq_true, beq_iff_eq] at this
  exact this.resolve_left hij
theorem eval_defers (a : Act) (d : Deferred) : ({ a with defers := d :: a.defers } : Act).eval = a.eval := by funext x; cases x <;> rfl
theorem unlisted {listed : Array Bool} {i : Nat} (h : listed.getD i true = false) : listed.getD i false = false := by
  rw [Array.getD_eq_getD_getElem?] at *
  cases hh : listed[i]? with
  | none => rfl
  | some b => rw [hh] at h; exact h
theorem put_size (a : Act) (d : Option Tmp) (v : Value) : (a.put d v).tmps.size = a.tmps.size := by cases d <;> simp [Act.put]
theorem put_defers_eq (a : Act) (d : Option Tmp) (v : Value) : (a.put d v).defers = a.defers := by cases d <;> rfl
theorem put_move {a b : Act} {d : Option Tmp} {u v : Value} (hs : b.tmps.size = a.tmps.size) (h : a.put d u = a.put d v) : b.put d u = b.put d v := by
  cases d with
  | none => rfl
  | some t =>
    simp only [Act.put, Act.mk.injEq, and_true] at h ⊢
    by_cases ht : t < a.tmps.size
    · have := congrArg (fun x : Array Value => x[t]?) h
      simp [ht] at this
      rw [this]
    · have hb : b.tmps.size ≤ t := by rw [hs]; exact Nat.le_of_not_lt ht
      rw [Array.setIfInBounds_eq_of_size_le hb, Array.setIfInBounds_eq_of_size_le hb]
theorem soft_ride {i : Nat} {o : Oper} {v : Value} {a b : Act} {w : World} {N : World → Prop} (hi : ops[i]? = some o) (he : execOp b.eval o = execOp a.eval o) (hw : Region.wanted o (yielded ops b.tmps) = Region.wanted o (yielded ops a.tmps)) (hsz : b.tmps.size = a.tmps.size)
    (h : wpOp P ops (Tot [] Q) i (fun a' w' => a' = a.put o.dst v ∧ N w') a w) : wpOp P ops (Tot [] Q) i (fun a' w' => a' = b.put o.dst v ∧ N w') b w := by
  unfold wpOp at *
  simp only [hi, hw] at *
  split at h
  · rename_i hwt
    simp only [hwt, if_true]
    rcases h with h | ⟨_, h⟩
    case inr => exact absurd h not_lets
    refine .inl ?_
    unfold Oper.wp at *
    rw [he]
    generalize (execOp a.eval o).run P w = r at *
    cases r with
    | ok n w' =>
      cases n <;> simp only [Oper.upon] at h ⊢
      case value u => exact ⟨put_move hsz h.1, h.2⟩
      case skip => exact ⟨put_move hsz h.1, h.2⟩
      case defer d =>
        have := congrArg (fun x : Act => x.defers.length) h.1
        simp [put_defers_eq] at this
      case enter f args => refine Calls.mono h fun e w'' he => ?_; cases e <;> first | exact ⟨put_move hsz he.1, he.2⟩ | exact he
      case row r args => exact Rows.mono h fun u w'' he => ⟨put_move hsz he.1, he.2⟩
    | halt x w' => cases x <;> simp only [Oper.upon] at h ⊢ <;> exact h
  · rename_i hwt
    simp only [hwt]
    exact ⟨put_move hsz h.1, h.2⟩
theorem W_soft (hB : ordB ops = true) {i : Nat} {oi : Oper} {v : Value} (hi : ops[i]? = some oi) : ∀ (f : Nat) (T : List Asn) (listed : Array Bool) (a : Act), Closed .any ops listed → i ∈ Region.ready .any ops listed →
    Soft P ops Q G w0 L i a (a.put oi.dst v) → W P ops Q G w0 L f T (listed.setIfInBounds i true) (a.put oi.dst v) → W P ops Q G w0 L (f + 1) T listed a := by
  obtain ⟨hsel, hap⟩ := ordB_spec hB
  intro f
  induction f with
  | zero =>
    intro T listed a hcl hr hs hw w S
    refine ⟨fun h => by rw [h] at hr; (cases hr), fun j hj => ?_⟩
    by_cases hji : j = i
    · subst hji
      exact wpOp_mono (fun a' w' ⟨e, S'⟩ => ⟨T, S', e ▸ hw⟩) (hs T w S)
    · have := ready_mono hj hji
      rw [hw.1] at this
      cases this
  | succ f ih =>
    intro T listed a hcl hr hs hw w S
    refine ⟨fun h => by rw [h] at hr; (cases hr), fun j hj => ?_⟩
    by_cases hji : j = i
    · subst hji
      exact wpOp_mono (fun a' w' ⟨e, S'⟩ => ⟨T, S', e ▸ hw⟩) (hs T w S)
    · obtain ⟨hjun, oj, hoj, hall⟩ := mem_ready.1 hj
      obtain ⟨hiun, oi', hoi', halli⟩ := mem_ready.1 hr
      have e1 : ((masks .any ops.toList []).getD j 0).testBit i = false := by
        cases hb : ((masks .any ops.toList []).getD j 0).testBit i with
        | false => rfl
        | true => have := mask_listed hcl j oj hoj hall hb; rw [unlisted hiun] at this; cases this
      have e2 : ((masks .any ops.toList []).getD i 0).testBit j = false := by
        cases hb : ((masks .any ops.toList []).getD i 0).testBit j with
        | false => rfl
        | true => have := mask_listed hcl i oi' hoi' halli hb; rw [unlisted hjun] at this; cases this
      obtain ⟨h1, h2, h3⟩ := Oper.apart_spec (hap i j oi oj (Ne.symm hji) hi hoj e1 e2)
      have H := (hw w S).2 j (ready_mono hj hji)
      have H2 := (wpOp_ride (P := P) (Q := Q) (φ := fun b => b.put oi.dst v) (a := a) (w := w) hoj (execOp_put oj (hsel j oj hoj) a oi.dst v h1) (wanted_put oj a oi.dst v h1) (fun u => Act.put_comm a v u h2)
        (fun d u => by rw [Act.put_defers]; exact Act.put_comm _ v u h2)).1 H
      have hcl' := hcl.set hj
      have hr' := ready_mono hr (Ne.symm hji)
      have soft : ∀ (b : Act), execOp b.eval oi = execOp a.eval oi → Region.wanted oi (yielded ops b.tmps) = Region.wanted oi (yielded ops a.tmps) → b.tmps.size = a.tmps.size → Soft P ops Q G w0 L i b (b.put oi.dst v) :=
        fun b he hwn hsz T' w' S' => soft_ride hi he hwn hsz (hs T' w' S')
      refine wpOp_mono (fun a' w' ⟨⟨T', S', h'⟩, hf⟩ => ⟨T', S', ih T' _ a' hcl' hr' ?_ ?_⟩) (wpOp_forms hoj H2)
      · rcases hf with ⟨u, rfl⟩ | ⟨d, u, rfl⟩
        · exact soft _ (execOp_put oi (hsel i oi hi) a oj.dst u h3) (wanted_put oi a oj.dst u h3) (put_size _ _ _)
        · exact soft _ (by rw [execOp_put oi (hsel i oi hi) _ oj.dst u h3, eval_defers]) (by rw [wanted_put oi _ oj.dst u h3]) (put_size _ _ _)
      · rw [Array.setIfInBounds_comm _ _ hji]; exact h'
/-- One operation turns its own slot alone. -/
def slotIs (ops : Array Oper) (i : Nat) (a A : Act) : Prop := ∃ o, ops[i]? = some o ∧ A = a.put o.dst ((o.dst.map fun t => A.tmps.getD t undef).getD undef)
def Softs (P : Program) (ops : Array Oper) (Q : Exit → Act → World → Prop) (G : Nat → Prop) (w0 : World) (L : List Asn) (F : Act → Prop) : List Nat → Act → Prop
  | [], a => F a
  | i :: l, a => ∃ A, Soft P ops Q G w0 L i a A ∧ slotIs ops i a A ∧ Softs P ops Q G w0 L F l A
theorem softs_cons {F : Act → Prop} {i : Nat} {l : List Nat} {a A : Act} (hw : Soft P ops Q G w0 L i a A) (hs : slotIs ops i a A) (hn : Softs P ops Q G w0 L F l A) : Softs P ops Q G w0 L F (i :: l) a := ⟨A, hw, hs, hn⟩
theorem softs_nil {f : Nat} {T : List Asn} {listed : Array Bool} {a : Act} (h : W P ops Q G w0 L f T listed a) : Softs P ops Q G w0 L (fun A => W P ops Q G w0 L f T listed A) [] a := h
def readyAll (ops : Array Oper) : List Nat → Array Bool → Bool
  | [], _ => true
  | i :: l, listed => (Region.ready .any ops listed).contains i && readyAll ops l (listed.setIfInBounds i true)
def after : List Nat → Array Bool → Array Bool
  | [], listed => listed
  | i :: l, listed => after l (listed.setIfInBounds i true)
theorem W_softs (hB : ordB ops = true) : ∀ (soft : List Nat) (f : Nat) (T : List Asn) (listed : Array Bool) (a : Act), Closed .any ops listed → readyAll ops soft listed = true →
    Softs P ops Q G w0 L (fun A => W P ops Q G w0 L f T (after soft listed) A) soft a → W P ops Q G w0 L (f + soft.length) T listed a
  | [], _, _, _, _, _, _, h => h
  | i :: l, f, T, listed, a, hcl, hr, ⟨A, hs, ⟨o, ho, hA⟩, h⟩ => by
    simp only [readyAll, Bool.and_eq_true, List.contains_iff_mem] at hr
    have := W_softs hB l f T _ A (hcl.set hr.1) hr.2 h
    rw [hA] at hs this
    exact W_soft hB ho (f + l.length) T listed a hcl hr.1 hs this
def softB (ops : Array Oper) (soft : List Nat) : Bool := ordB ops && readyAll ops soft (Array.replicate ops.size false) && Nat.ble soft.length ops.size
theorem wp_region_w {id : Nat} {soft : List Nat} {a : Act} {w : World} (S : St G w0 w L) (hm : P.follows .mixedOrders = true) (hB : softB ops soft = true)
    (h : Softs P ops Q G w0 L (fun A => W P ops Q G w0 L (ops.size - soft.length) [] (after soft (Array.replicate ops.size false)) A) soft a) : (Code.region id ops true).wp P Q a w := by
  simp only [softB, Bool.and_eq_true] at hB
  have hc : Closed .any ops (Array.replicate ops.size false) := fun j oj _ hl => by
    rw [Array.getD_eq_getD_getElem?] at hl
    by_cases hj : j < ops.size
    · rw [Array.getElem?_replicate, if_pos hj] at hl; cases hl
    · rw [Array.getElem?_replicate, if_neg hj] at hl; cases hl
  have hle := Nat.le_of_ble_eq_true hB.2
  have := W_softs hB.1.1 soft (ops.size - soft.length) [] _ a hc hB.1.2 h
  rw [show ops.size - soft.length + soft.length = ops.size by omega] at this
  exact wp_region_any hm (W_any _ [] _ a _ this (by simpa using S.ext (keep_drew w)))
theorem W_done {n : Nat} {T : List Asn} {listed : Array Bool} {a : Act} (hn : n = 0) (hr : Region.ready .any ops listed = []) (h : ∀ w, St G w0 w (L ++ T) → Q .normal a w) : W P ops Q G w0 L n T listed a := by subst hn; exact ⟨hr, h⟩
theorem W_hard1 {n f i : Nat} (hn : n = f + 1) {T : List Asn} {listed : Array Bool} {a : Act} (hr : Region.ready .any ops listed = [i])
    (h : ∀ w, St G w0 w (L ++ T) → wpOp P ops (Tot [] Q) i (fun a' w' => ∃ T', St G w0 w' (L ++ T') ∧ W P ops Q G w0 L f T' (listed.setIfInBounds i true) a') a w) : W P ops Q G w0 L n T listed a := by
  subst hn
  exact fun w S => ⟨fun e => by rw [hr] at e; (cases e), fun j hj => by rw [hr] at hj; simp at hj; subst hj; exact h w S⟩
theorem W_hard2 {n f i i' : Nat} (hn : n = f + 1) {T : List Asn} {listed : Array Bool} {a : Act} (hr : Region.ready .any ops listed = [i, i'])
    (h : ∀ w, St G w0 w (L ++ T) → wpOp P ops (Tot [] Q) i (fun a' w' => ∃ T', St G w0 w' (L ++ T') ∧ W P ops Q G w0 L f T' (listed.setIfInBounds i true) a') a w)
    (h' : ∀ w, St G w0 w (L ++ T) → wpOp P ops (Tot [] Q) i' (fun a' w' => ∃ T', St G w0 w' (L ++ T') ∧ W P ops Q G w0 L f T' (listed.setIfInBounds i' true) a') a w) : W P ops Q G w0 L n T listed a := by
  subst hn
  exact fun w S => ⟨fun e => by rw [hr] at e; (cases e), fun j hj => by
    rw [hr] at hj; simp at hj
    rcases hj with rfl | rfl
    · exact h w S
    · exact h' w S⟩
def SoftQ (A : Act) (G : Nat → Prop) (w0 : World) (L : List Asn) : Exit → Act → World → Prop := fun _ a' w' => a' = A ∧ St G w0 w' L
def HardQ (P : Program) (ops : Array Oper) (Q : Exit → Act → World → Prop) (G : Nat → Prop) (w0 : World) (L : List Asn) (f : Nat) (listed : Array Bool) : Exit → Act → World → Prop := fun _ a' w' => ∃ T', St G w0 w' (L ++ T') ∧ W P ops Q G w0 L f T' listed a'
theorem op_list {i : Nat} {o : Oper} {K : Act → World → Prop} {R : Exit → Act → World → Prop} {a : Act} {w : World} (hi : ops[i]? = some o) (h : wpList P ops (Tot [] R) [o] a w) (hR : ∀ a' w', R .normal a' w' → K a' w') : wpOp P ops (Tot [] Q) i K a w := by
  unfold wpOp
  simp only [hi]
  unfold wpList at h
  split at h
  · rename_i hw
    simp only [hw, if_true]
    rcases h with h | ⟨_, h⟩
    case inr => exact absurd h not_lets
    refine .inl ?_
    unfold Oper.wp at *
    generalize (execOp a.eval o).run P w = r at *
    cases r with
    | ok n w' =>
      cases n <;> simp only [Oper.upon] at h ⊢
      case value v => exact hR _ _ h.2
      case skip => exact hR _ _ h.2
      case defer d => exact hR _ _ h.2
      case enter f args => refine Calls.mono h fun e w'' he => ?_; cases e <;> first | exact hR _ _ he.2 | exact absurd he not_lets | exact (he : False).elim
      case row r args => exact Rows.mono h fun v w'' he => hR _ _ he.2
    | halt x w' => cases x <;> simp only [Oper.upon] at h ⊢ <;> exact h
  · rename_i hw
    simp only [hw]
    exact hR _ _ h.2
def opAt : List Oper → Nat → Option Oper
  | [], _ => none
  | o :: _, 0 => some o
  | _ :: l, n + 1 => opAt l n
theorem opAt_get : ∀ (l : List Oper) (i : Nat), opAt l i = l[i]?
  | [], _ => by simp [opAt]
  | _ :: _, 0 => rfl
  | _ :: l, n + 1 => by simp [opAt, opAt_get l n]
theorem opAt_arr {i : Nat} {o : Oper} (h : opAt ops.toList i = some o) : ops[i]? = some o := by rw [opAt_get] at h; simpa using h
theorem soft_of {i : Nat} {o : Oper} {a A : Act} (hi : opAt ops.toList i = some o) (h : ∀ T w, St G w0 w (L ++ T) → wpList P ops (Tot [] (SoftQ A G w0 (L ++ T))) [o] a w) : Soft P ops Q G w0 L i a A := fun T w S => op_list (opAt_arr hi) (h T w S) fun _ _ h => h
theorem hard_of {i f : Nat} {o : Oper} {a : Act} {w : World} {listed : Array Bool} (hi : opAt ops.toList i = some o) (h : wpList P ops (Tot [] (HardQ P ops Q G w0 L f listed)) [o] a w) :
    wpOp P ops (Tot [] Q) i (fun a' w' => ∃ T', St G w0 w' (L ++ T') ∧ W P ops Q G w0 L f T' listed a') a w := op_list (opAt_arr hi) h fun _ _ h => h
end
end Go.Proofs.Ytcbdacmdmaoegaa.Mem

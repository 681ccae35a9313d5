import Derived.Test.YtfiiaechippboaaDoorR10
import Derived.Test.YtfiiaechippboaaDoorR04
import Derived.Test.YtfiiaechippboaaDoorR05
import Derived.Test.YtfiiaechippboaaDoorR13
import Derived.Test.YtfiiaechippboaaDoorR06
import Derived.Laws.CopyRow
/- A region that draws its order and calls 'yield' once, behind all else that hangs on memory. Over any program. -/
namespace Go.Proofs.YtfiiaechippboaaDoor.Mem
open Go Go.RowKit Reg

def NoQ : Exit → Act → World → Prop := fun _ _ _ => False
section
variable {P : Program} {ops : Array Oper} {Q : Exit → Act → World → Prop} {y : Nat} {G : Nat → Prop} {w0 : World} {L : List Asn}
/-- As W, but that the operation y is one that asks for a round. -/
def WI (P : Program) (ops : Array Oper) (Q : Exit → Act → World → Prop) (y : Nat) (G : Nat → Prop) (w0 : World) (L : List Asn) : Nat → List Asn → Array Bool → Act → Prop
  | 0, T, listed, a => Region.ready .any ops listed = [] ∧ ∀ w, St G w0 w (L ++ T) → Q .normal a w
  | f + 1, T, listed, a => ∀ w, St G w0 w (L ++ T) → (Region.ready .any ops listed = [] → Q .normal a w) ∧
      ∀ i ∈ Region.ready .any ops listed, (i = y → wpOpIn Fence.wide 0 P ops Q i (wpAnyIn Fence.wide 0 P .any ops Q f (listed.setIfInBounds i true)) a w) ∧
        (i ≠ y → wpOp P ops (Tot [] NoQ) i (fun a' w' => ∃ T', St G w0 w' (L ++ T') ∧ WI P ops Q y G w0 L f T' (listed.setIfInBounds i true) a') a w)
theorem wpOp_in {i : Nat} {K : Act → World → Prop} {a : Act} {w : World} (hd : ∀ o, ops[i]? = some o → noDefer o = true) (h : wpOp P ops (Tot [] NoQ) i K a w) : wpOpIn Fence.wide 0 P ops Q i K a w := by
  unfold wpOp at h
  unfold wpOpIn
  cases ho : ops[i]? with
  | none => simp only [ho] at h ⊢; exact h
  | some o =>
    simp only [ho] at h ⊢
    split
    · rename_i hw
      rw [if_pos hw] at h
      rcases h with h | ⟨_, h⟩
      case inr => exact absurd h not_lets
      refine oper_in (K := fun _ _ => False) (.inl rfl) (hd o ho) ?_
      unfold Oper.wp at *
      generalize (execOp a.eval o).run P w = r at *
      cases r with
      | ok n w' =>
        cases n <;> simp only [Oper.upon] at h ⊢ <;> first | exact h | (refine Calls.mono h fun e w'' he => ?_; cases e <;> first | exact he | exact absurd he not_lets | exact (he : False).elim)
      | halt x w' => cases x <;> simp only [Oper.upon] at h ⊢ <;> exact h.elim
    · rename_i hw
      rw [if_neg hw] at h
      exact ⟨fun _ _ => trivial, h⟩
theorem WI_any (hd : ∀ i o, i ≠ y → ops[i]? = some o → noDefer o = true) : ∀ (f : Nat) (T : List Asn) (listed : Array Bool) (a : Act) (w : World), WI P ops Q y G w0 L f T listed a → St G w0 w (L ++ T) → wpAnyIn Fence.wide 0 P .any ops Q f listed a w
  | 0, _, _, _, w, h, S => ⟨h.1, h.2 w S⟩
  | f + 1, _, _, _, w, h, S => ⟨(h w S).1, fun i hi => by
      by_cases e : i = y
      · exact ((h w S).2 i hi).1 e
      · exact wpOpIn_mono (fun a' w' ⟨T', S', h'⟩ => WI_any hd f T' _ a' w' h' S') (wpOp_in (fun o => hd i o e) (((h w S).2 i hi).2 e))⟩
theorem WI_soft (hB : ordB ops = true) {i : Nat} {oi : Oper} {v : Value} (hi : ops[i]? = some oi) (hiy : i ≠ y) (hym : ((masks .any ops.toList []).getD y 0).testBit i = true) : ∀ (f : Nat) (T : List Asn) (listed : Array Bool) (a : Act), Closed .any ops listed → i ∈ Region.ready .any ops listed →
    Soft P ops NoQ G w0 L i a (a.put oi.dst v) → WI P ops Q y G w0 L f T (listed.setIfInBounds i true) (a.put oi.dst v) → WI P ops Q y G w0 L (f + 1) T listed a := by
  obtain ⟨hsel, hap⟩ := ordB_spec hB
  intro f
  induction f with
  | zero =>
    intro T listed a hcl hr hs hw w S
    refine ⟨fun h => by rw [h] at hr; (cases hr), fun j hj => ?_⟩
    by_cases hji : j = i
    · subst hji
      exact ⟨fun e => absurd e hiy, fun _ => wpOp_mono (fun a' w' ⟨e, S'⟩ => ⟨T, S', e ▸ hw⟩) (hs T w S)⟩
    · have := ready_mono hj hji
      rw [hw.1] at this
      cases this
  | succ f ih =>
    intro T listed a hcl hr hs hw w S
    refine ⟨fun h => by rw [h] at hr; (cases hr), fun j hj => ?_⟩
    by_cases hji : j = i
    · subst hji
      exact ⟨fun e => absurd e hiy, fun _ => wpOp_mono (fun a' w' ⟨e, S'⟩ => ⟨T, S', e ▸ hw⟩) (hs T w S)⟩
    · obtain ⟨hjun, oj, hoj, hall⟩ := mem_ready.1 hj
      obtain ⟨hiun, oi', hoi', halli⟩ := mem_ready.1 hr
      have e1 : ((masks .any ops.toList []).getD j 0).testBit i = false := by
        cases hb : ((masks .any ops.toList []).getD j 0).testBit i with
        | false => rfl
        | true => have := mask_listed hcl j oj hoj hall hb; rw [unlisted hiun] at this; cases this
      have e2 : ((masks .any ops.toList []).getD i 0).testBit j = false := by
        cases hb : ((masks .any ops.toList []).getD i 0).testBit j with
        | false => rfl
        | true => have := mask_listed hcl i oi' hoi' halli hb; rw [unlisted hjun] at this; cases this
      have hjy : j ≠ y := fun e => by subst e; rw [hym] at e1; cases e1
      obtain ⟨h1, h2, h3⟩ := Oper.apart_spec (hap i j oi oj (Ne.symm hji) hi hoj e1 e2)
      have H := ((hw w S).2 j (ready_mono hj hji)).2 hjy
      have H2 := (wpOp_ride (P := P) (Q := NoQ) (φ := fun b => b.put oi.dst v) (a := a) (w := w) hoj (execOp_put oj (hsel j oj hoj) a oi.dst v h1) (wanted_put oj a oi.dst v h1) (fun u => Act.put_comm a v u h2)
        (fun d u => by rw [Act.put_defers]; exact Act.put_comm _ v u h2)).1 H
      have hcl' := hcl.set hj
      have hr' := ready_mono hr (Ne.symm hji)
      have soft : ∀ (b : Act), execOp b.eval oi = execOp a.eval oi → Region.wanted oi (yielded ops b.tmps) = Region.wanted oi (yielded ops a.tmps) → b.tmps.size = a.tmps.size → Soft P ops NoQ G w0 L i b (b.put oi.dst v) :=
        fun b he hwn hsz T' w' S' => soft_ride hi he hwn hsz (hs T' w' S')
      refine ⟨fun e => absurd e hjy, fun _ => wpOp_mono (fun a' w' ⟨⟨T', S', h'⟩, hf⟩ => ⟨T', S', ih T' _ a' hcl' hr' ?_ ?_⟩) (wpOp_forms hoj H2)⟩
      · rcases hf with ⟨u, rfl⟩ | ⟨d, u, rfl⟩
        · exact soft _ (execOp_put oi (hsel i oi hi) a oj.dst u h3) (wanted_put oi a oj.dst u h3) (put_size _ _ _)
        · exact soft _ (by rw [execOp_put oi (hsel i oi hi) _ oj.dst u h3, eval_defers]) (by rw [wanted_put oi _ oj.dst u h3]) (put_size _ _ _)
      · rw [Array.setIfInBounds_comm _ _ hji]; exact h'
/-- All these come ahead of y. -/
def aheadB (ops : Array Oper) (y : Nat) (soft : List Nat) : Bool := soft.all fun i => !(i == y) && ((masks .any ops.toList []).getD y 0).testBit i
theorem WI_softs (hB : ordB ops = true) : ∀ (soft : List Nat) (f : Nat) (T : List Asn) (listed : Array Bool) (a : Act), aheadB ops y soft = true → Closed .any ops listed → readyAll ops soft listed = true →
    Softs P ops NoQ G w0 L (fun A => WI P ops Q y G w0 L f T (after soft listed) A) soft a → WI P ops Q y G w0 L (f + soft.length) T listed a
  | [], _, _, _, _, _, _, _, h => h
  | i :: l, f, T, listed, a, hy, hcl, hr, ⟨A, hs, ⟨o, ho, hA⟩, h⟩ => by
    simp only [aheadB, List.all_cons, Bool.and_eq_true, Bool.not_eq_true', beq_eq_false_iff_ne] at hy
    simp only [readyAll, Bool.and_eq_true, List.contains_iff_mem] at hr
    have := WI_softs hB l f T _ A hy.2 (hcl.set hr.1) hr.2 h
    rw [hA] at hs this
    exact WI_soft hB ho hy.1.1 hy.1.2 (f + l.length) T listed a hcl hr.1 hs this
def plainB (ops : Array Oper) (y : Nat) : Bool := (List.range ops.size).all fun i => i == y || ((ops[i]?).map noDefer).getD true
theorem wp_region_yi {id : Nat} {soft : List Nat} {a : Act} {w : World} (y : Nat) (S : St G w0 w L) (hm : P.follows .mixedOrders = true) (hB : (softB ops soft && aheadB ops y soft && plainB ops y) = true)
    (h : Softs P ops NoQ G w0 L (fun A => WI P ops Q y G w0 L (ops.size - soft.length) [] (after soft (Array.replicate ops.size false)) A) soft a) : (Code.region id ops true).wp P Q a w := by
  simp only [softB, Bool.and_eq_true] at hB
  have hc : Closed .any ops (Array.replicate ops.size false) := fun j oj _ hl => by
    rw [Array.getD_eq_getD_getElem?] at hl
    by_cases hj : j < ops.size
    · rw [Array.getElem?_replicate, if_pos hj] at hl; cases hl
    · rw [Array.getElem?_replicate, if_neg hj] at hl; cases hl
  have hle := Nat.le_of_ble_eq_true hB.1.1.2
  have hd : ∀ i o, i ≠ y → ops[i]? = some o → noDefer o = true := fun i o hi ho => by
    have := List.all_eq_true.1 hB.2 i (List.mem_range.2 (Array.getElem?_eq_some_iff.1 ho).1)
    rw [ho] at this
    simpa [hi] using this
  have := WI_softs hB.1.1.1.1 soft (ops.size - soft.length) [] _ a hB.1.2 hc hB.1.1.1.2 h
  rw [show ops.size - soft.length + soft.length = ops.size by omega] at this
  exact (wpIn_wide (n := 0)).1 (wpIn_region_any hm (WI_any hd _ [] _ a _ this (by simpa using S.ext (keep_drew w))))
theorem softsI_nil {f : Nat} {T : List Asn} {listed : Array Bool} {a : Act} (h : WI P ops Q y G w0 L f T listed a) : Softs P ops NoQ G w0 L (fun A => WI P ops Q y G w0 L f T listed A) [] a := h
theorem WI_hard1 {n f i : Nat} (hn : n = f + 1) {T : List Asn} {listed : Array Bool} {a : Act} (hr : Region.ready .any ops listed = [i]) (hiy : (i == y) = false)
    (h : ∀ w, St G w0 w (L ++ T) → wpOp P ops (Tot [] NoQ) i (fun a' w' => ∃ T', St G w0 w' (L ++ T') ∧ WI P ops Q y G w0 L f T' (listed.setIfInBounds i true) a') a w) : WI P ops Q y G w0 L n T listed a := by
  subst hn
  exact fun w S => ⟨fun e => by rw [hr] at e; (cases e), fun j hj => by rw [hr] at hj; simp at hj; subst hj; exact ⟨fun e => by rw [e] at hiy; simp at hiy, fun _ => h w S⟩⟩
theorem WI_yield {n f : Nat} (hn : n = f + 1) {T : List Asn} {listed : Array Bool} {a : Act} (hr : Region.ready .any ops listed = [y])
    (h : ∀ w, St G w0 w (L ++ T) → wpOpIn Fence.wide 0 P ops Q y (wpAnyIn Fence.wide 0 P .any ops Q f (listed.setIfInBounds y true)) a w) : WI P ops Q y G w0 L n T listed a := by
  subst hn
  exact fun w S => ⟨fun e => by rw [hr] at e; (cases e), fun j hj => by rw [hr] at hj; simp at hj; subst hj; exact ⟨fun _ => h w S, fun e => absurd rfl e⟩⟩
/-- One more operation, behind the yield. -/
theorem anyIn_one {f i : Nat} {o : Oper} {listed : Array Bool} {a : Act} {w : World} (hi : opAt ops.toList i = some o) (hr : Region.ready .any ops listed = [i]) (hd : noDefer o = true)
    (h : wpList P ops (Tot [] fun _ a' w' => wpAnyIn Fence.wide 0 P .any ops Q f (listed.setIfInBounds i true) a' w') [o] a w) : wpAnyIn Fence.wide 0 P .any ops Q (f + 1) listed a w :=
  ⟨fun e => by rw [hr] at e; (cases e), fun j hj => by
    rw [hr] at hj; simp at hj; subst hj
    exact wpOp_in (fun o' ho' => by rw [opAt_arr hi] at ho'; cases ho'; exact hd) (op_list (opAt_arr hi) h fun _ _ h => h)⟩
theorem anyIn_done {listed : Array Bool} {a : Act} {w : World} (hr : Region.ready .any ops listed = []) (h : Q .normal a w) : wpAnyIn Fence.wide 0 P .any ops Q 0 listed a w := ⟨hr, h⟩
/-- The call of yield. -/
theorem wpOpIn_yield {l : Nat} {o : Oper} {x : Operand} {as : Array Operand} {ts : Array TypeId} {d : Option Tmp} {argl : List Value} {a : Act} {w : World} {R : Ending → World → Prop} {K : Act → World → Prop} (hi : opAt ops.toList y = some o)
    (ho : o.op = .call { callee := .value x, args := as, argTypes := ts }) (hdst : o.dst = d) (hg : o.guard = none) (hx : a.eval x = .func (.yield l) #[] #[]) (has : as.toList.map a.eval = argl) (hY : YieldAt Fence.wide 0 P l argl.toArray w R)
    (hR : ∀ e w', R e w' → ∃ v, e = .returned v ∧ K (a.put d v) w') : wpOpIn Fence.wide 0 P ops Q y K a w := by
  have has2 : as.map a.eval = argl.toArray := by rw [← Array.toList_inj]; simpa using has
  obtain ⟨fn, tmps, assign, body, hy, hround⟩ := hY
  unfold wpOpIn
  simp only [opAt_arr hi]
  have hw : Region.wanted o (yielded ops a.tmps) = true := by unfold Region.wanted; rw [hg]
  rw [if_pos hw]
  refine ⟨fun _ _ => trivial, ?_⟩
  have hs : o.semAt Fence.wide.round a.eval = execOp a.eval o := Oper.semAt_eq _ _ _ (fun c e => by rw [ho] at e; cases e)
  rw [hs]
  have hrun : (execOp a.eval o).run P w = .ok (.round l fn tmps assign body) w := by
    obtain ⟨dst, op, type, pos, af, guard⟩ := o
    simp only at ho
    subst ho
    simp only [execOp, resolve, hx, has2]
    simp [go_sem, invoke, hy]
  rw [hrun, Oper.uponIn_round]
  refine ⟨fun e => by simp [Fence.wide] at e, hround.mono fun e w' he => ?_⟩
  obtain ⟨v, rfl, hk⟩ := hR e w' he
  rw [hdst]
  exact hk
def HardQI (P : Program) (ops : Array Oper) (Q : Exit → Act → World → Prop) (y : Nat) (G : Nat → Prop) (w0 : World) (L : List Asn) (f : Nat) (listed : Array Bool) : Exit → Act → World → Prop := fun _ a' w' => ∃ T', St G w0 w' (L ++ T') ∧ WI P ops Q y G w0 L f T' listed a'
theorem hardI_of {i f : Nat} {o : Oper} {a : Act} {w : World} {listed : Array Bool} (hi : opAt ops.toList i = some o) (h : wpList P ops (Tot [] (HardQI P ops Q y G w0 L f listed)) [o] a w) :
    wpOp P ops (Tot [] NoQ) i (fun a' w' => ∃ T', St G w0 w' (L ++ T') ∧ WI P ops Q y G w0 L f T' listed a') a w := op_list (opAt_arr hi) h fun _ _ h => h
end
end Go.Proofs.YtfiiaechippboaaDoor.Mem
/- Plain: the machine that runs a handler's program. No program in sight. -/
namespace Go.Proofs.YtfiiaechippboaaDoor
open Go Go.RowKit Mem

structure Emit where
  dst : Int
  delay : Int
  kind : Int
  data : Int
  deriving DecidableEq
instance : Inhabited Emit := ⟨⟨0, 0, 0, 0⟩⟩
def Emit.cells (x : Emit) : List Value := [.int .i64 x.dst, .int .i64 x.delay, .int .i64 x.kind, .int .i64 x.data]
theorem emcells : ∀ e : Emit, e.cells.length = 4 := fun _ => rfl
theorem emone : ∀ e : Emit, ∀ u ∈ e.cells, u.oneCell' = true := fun _ => by simp [Emit.cells, Value.oneCell']
/-- A handler at work: its numbers (eight), the place, what it has sent. -/
structure Mach where
  cs : List Int
  at_ : Int
  sent : List Emit
def Mach.get (m : Mach) (a : Int) : Int := m.cs[a.toNat]?.getD 0
def Mach.put (m : Mach) (a v : Int) : Mach := { m with cs := m.cs.set a.toNat v }
def reckonE (op b c : Int) : Int :=
  if op = 4 then wrap64 (b + wrap64 (-c)) else if op = 3 then wrap64 (b + c) else if op = 5 then wrap64 (b * c) else if op = 6 then (if c ≠ 0 then b.tmod c else 0) else if op = 7 then (if b < c then 1 else 0) else 0
/-- What an instruction that may be does; the machine stands behind it. -/
def doE (e : Event) (fan : Int) (m : Mach) (x : Instr) : Mach :=
  if x.op = 1 then m.put x.a x.b
  else if x.op = 2 then m.put x.a (m.get x.b)
  else if 3 ≤ x.op ∧ x.op ≤ 7 then m.put x.a (reckonE x.op (m.get x.b) (m.get x.c))
  else if x.op = 8 then { m with at_ := x.a }
  else if x.op = 9 then (if m.get x.a = 0 then { m with at_ := x.b } else m)
  else if x.op = 10 then m.put x.a e.key.at_
  else if x.op = 11 then m.put x.a e.kind
  else if x.op = 12 then m.put x.a e.data
  else if x.op = 13 then m.put x.a e.dst
  else if x.op = 14 then (if (m.sent.length : Int) < fan then { m with sent := m.sent ++ [⟨m.get x.a, m.get x.b, x.d, m.get x.c⟩] } else m)
  else m
/-- One step, if there is one. -/
def stepE (p : List Instr) (e : Event) (fan : Int) (m : Mach) : Option Mach :=
  if m.at_ < 0 ∨ (p.length : Int) ≤ m.at_ then none
  else match p[m.at_.toNat]? with
    | none => none
    | some x => if x.op = 15 ∨ mayE x p.length ≠ 0 then none else some (doE e fan { m with at_ := m.at_ + 1 } x)
def stepsE (p : List Instr) (e : Event) (fan : Int) : Nat → Mach → Mach
  | 0, m => m
  | f + 1, m => match stepE p e fan m with
    | none => m
    | some n => stepsE p e fan f n
def startE (s : State) : Mach := ⟨[s.n0, s.n1, s.n2, s.n3, 0, 0, 0, 0], 0, []⟩
theorem ite_len {c : Prop} [Decidable c] {a b : Mach} {n : Nat} (ha : a.cs.length = n) (hb : b.cs.length = n) : (if c then a else b).cs.length = n := by split <;> assumption
theorem doE_len (e : Event) (fan : Int) (m : Mach) (x : Instr) : (doE e fan m x).cs.length = m.cs.length := by
  unfold doE
  repeat' apply ite_len
  all_goals first | rfl | (unfold Mach.put; exact List.length_set)
/-- The cells of a machine. -/
def machCells (e : Event) (vp : Value) (m : Mach) (fan : Int) (vs : Value) : Array Value :=
  (e.cells ++ vp :: (m.cs.map (Value.int .i64) ++ [.int .i64 m.at_, .int .i64 fan, vs])).toArray
section
variable {e : Event} {vp vs u : Value} {m : Mach} {fan : Int}
theorem mach_ev {q : Nat} (hq : q < 7) (hu : e.cells[q]? = some u) : (machCells e vp m fan vs)[q]? = some u := by
  unfold machCells
  simp only [List.getElem?_toArray]
  rw [List.getElem?_append_left (by simpa [Event.cells] using hq)]; exact hu
theorem mach_prog : (machCells e vp m fan vs)[7]? = some vp := by simp [machCells, Event.cells]
theorem mach_cell (h8 : m.cs.length = 8) {a : Nat} (ha : a < 8) : (machCells e vp m fan vs)[8 + a]? = some (.int .i64 (m.get a)) := by
  unfold machCells Mach.get
  simp only [List.getElem?_toArray]
  rw [List.getElem?_append_right (by simp [Event.cells]; omega), show 8 + a - e.cells.length = a + 1 by simp [Event.cells]; omega, List.getElem?_cons_succ, List.getElem?_append_left (by simp [h8]; exact ha), List.getElem?_map]
  have : m.cs[a]? = some m.cs[a] := List.getElem?_eq_getElem (by omega)
  simp [this]
theorem mach_at (h8 : m.cs.length = 8) : (machCells e vp m fan vs)[16]? = some (.int .i64 m.at_) := by
  unfold machCells
  simp only [List.getElem?_toArray]
  rw [List.getElem?_append_right (by simp [Event.cells]), show 16 - e.cells.length = 8 + 1 by simp [Event.cells], List.getElem?_cons_succ, List.getElem?_append_right (by simp [h8])]
  simp [h8]
theorem mach_fan (h8 : m.cs.length = 8) : (machCells e vp m fan vs)[17]? = some (.int .i64 fan) := by
  unfold machCells
  simp only [List.getElem?_toArray]
  rw [List.getElem?_append_right (by simp [Event.cells]), show 17 - e.cells.length = 9 + 1 by simp [Event.cells], List.getElem?_cons_succ, List.getElem?_append_right (by simp [h8])]
  simp [h8]
theorem mach_sent (h8 : m.cs.length = 8) : (machCells e vp m fan vs)[18]? = some vs := by
  unfold machCells
  simp only [List.getElem?_toArray]
  rw [List.getElem?_append_right (by simp [Event.cells]), show 18 - e.cells.length = 10 + 1 by simp [Event.cells], List.getElem?_cons_succ, List.getElem?_append_right (by simp [h8])]
  simp [h8]
theorem mach_size (h8 : m.cs.length = 8) : (machCells e vp m fan vs).size = 19 := by simp [machCells, Event.cells, h8]
theorem mach_put (h8 : m.cs.length = 8) {a : Nat} (ha : a < 8) (v : Int) : (machCells e vp m fan vs).setIfInBounds (8 + a) (.int .i64 v) = machCells e vp (m.put a v) fan vs := by
  unfold machCells Mach.put
  rw [List.setIfInBounds_toArray]
  congr 1
  rw [List.set_append_right _ _ (by simp [Event.cells]; omega), show 8 + a - e.cells.length = a + 1 by simp [Event.cells]; omega, List.set_cons_succ, List.set_append_left _ _ (by simp [h8]; exact ha), List.map_set]
  simp
theorem mach_setat (h8 : m.cs.length = 8) (v : Int) : (machCells e vp m fan vs).setIfInBounds 16 (.int .i64 v) = machCells e vp { m with at_ := v } fan vs := by
  unfold machCells
  rw [List.setIfInBounds_toArray]
  congr 1
  rw [List.set_append_right _ _ (by simp [Event.cells]), show 16 - e.cells.length = 8 + 1 by simp [Event.cells], List.set_cons_succ, List.set_append_right _ _ (by simp [h8])]
  simp [h8]
theorem mach_setsent (h8 : m.cs.length = 8) (v : Value) (l : List Emit) : (machCells e vp m fan vs).setIfInBounds 18 v = machCells e vp { m with sent := l } fan v := by
  unfold machCells
  rw [List.setIfInBounds_toArray]
  congr 1
  rw [List.set_append_right _ _ (by simp [Event.cells]), show 18 - e.cells.length = 10 + 1 by simp [Event.cells], List.set_cons_succ, List.set_append_right _ _ (by simp [h8])]
  simp [h8]
end
end Go.Proofs.YtfiiaechippboaaDoor
/- The walk of vm.reckon. -/
namespace Go.Proofs.YtfiiaechippboaaDoor
open Go Go.RowKit Reg Mem

set_option maxRecDepth 100000 in
theorem reckon_calls (op b c : Int) (hop : 3 ≤ op ∧ op ≤ 7) (w : World) : Calls Tryd.prog 82 #[.int .i64 op, .int .i64 b, .int .i64 c] w fun r w' => r = .returned (.int .i64 (reckonE op b c)) ∧ Below w.heap.size w w' := by
  have S := St.init (fun _ => False) w
  obtain rfl | rfl | rfl | rfl | rfl : op = 3 ∨ op = 4 ∨ op = 5 ∨ op = 6 ∨ op = 7 := by omega
  · skip
    go_enter Tryd.func82, Tryd.ntmps82
    go_wp2_with first
      | ((with_reducible refine tot_done ?ht ?_); (case ht => kernel_rfl))
    go_ret
    exact ⟨ret_int (by simp [reckonE]), S.below⟩
  · skip
    go_enter Tryd.func82, Tryd.ntmps82
    go_wp2_with first
      | ((with_reducible refine tot_done ?ht ?_); (case ht => kernel_rfl))
    go_ret
    exact ⟨ret_int (by simp [reckonE]), S.below⟩
  · skip
    go_enter Tryd.func82, Tryd.ntmps82
    go_wp2_with first
      | ((with_reducible refine tot_done ?ht ?_); (case ht => kernel_rfl))
    go_ret
    exact ⟨ret_int (by simp [reckonE]), S.below⟩
  · by_cases h0 : c = 0
    · subst h0
      go_enter Tryd.func82, Tryd.ntmps82
      go_wp2_with first
        | ((with_reducible refine tot_done ?ht ?_); (case ht => kernel_rfl))
      go_ret
      exact ⟨ret_int (by simp [reckonE]), S.below⟩
    · have h1 : (c != 0) = true := by simpa using h0
      have HR := Lib.hid (show reckonE 6 b c = b.tmod c by simp [reckonE, h0])
      go_enter Tryd.func82, Tryd.ntmps82
      go_wp2_with first
        | ((with_reducible refine tot_done ?ht ?_); (case ht => kernel_rfl))
      go_ret
      exact ⟨ret_int HR.out.symm, S.below⟩
  · by_cases h0 : b < c
    · have HR := Lib.hid (show reckonE 7 b c = 1 by simp [reckonE, h0])
      go_enter Tryd.func82, Tryd.ntmps82
      go_wp2_with first
        | ((with_reducible refine tot_done ?ht ?_); (case ht => kernel_rfl))
      go_ret
      exact ⟨ret_int HR.out.symm, S.below⟩
    · have HR := Lib.hid (show reckonE 7 b c = 0 by simp [reckonE, h0])
      go_enter Tryd.func82, Tryd.ntmps82
      go_wp2_with first
        | ((with_reducible refine tot_done ?ht ?_); (case ht => kernel_rfl))
      go_ret
      exact ⟨ret_int HR.out.symm, S.below⟩
end Go.Proofs.YtfiiaechippboaaDoor
/- The walks of model.Check and New. -/
namespace Go.Proofs.YtfiiaechippboaaDoor
open Go Go.RowKit Reg Mem

set_option maxRecDepth 100000 in
theorem elem_In : Elem Tryd.prog 71 70 5 40 := ⟨_, .agg #[.int .i64 0, .int .i64 0, .int .i64 0, .int .i64 0, .int .i64 0], Tryd.underlying71, rfl, by kernel_rfl, by kernel_rfl, by kernel_rfl, by kernel_rfl, by omega⟩
set_option maxRecDepth 100000 in
theorem elem_Pl : Elem Tryd.prog 23 73 5 40 := ⟨_, .agg #[.int .i64 0, .int .i64 0, .int .i64 0, .int .i64 0, .int .i64 0], Tryd.underlying23, rfl, by kernel_rfl, by kernel_rfl, by kernel_rfl, by kernel_rfl, by omega⟩
set_option maxRecDepth 100000 in
theorem elem_Sta : Elem Tryd.prog 24 96 4 32 := ⟨_, .agg #[.int .i64 0, .int .i64 0, .int .i64 0, .int .i64 0], Tryd.underlying24, rfl, by kernel_rfl, by kernel_rfl, by kernel_rfl, by kernel_rfl, by omega⟩
set_option maxRecDepth 100000 in
/-- slices.Clone. -/
theorem clone_In {ad : Option Addr} {n c : Nat} {xs : List _} (w : World) (F : Nat → Prop) (h : (Sl true Instr.cells 5 (.slice ad n c) xs).at_ w F) (hn : xs.length ≤ 4294967296) :
    Calls Tryd.prog 44 #[.slice ad n c] w fun e w' => ∃ ad' c', e = .returned (.slice ad' xs.length c') ∧ (0 < xs.length → ∃ R, ad' = some ⟨R, 0, none⟩) ∧ St (fun _ => False) w w' [Own 70 Instr.cells 5 (.slice ad' xs.length c') xs] := by
  have S : St (fun _ => False) w w [Sl true Instr.cells 5 (.slice ad n c) xs] := (St.init _ w).share rfl rfl h
  have hq : ∀ (w : World) (a : Option Addr) (n c n' c' : Nat), (binOp .eql 71 (.slice a n c) (.slice none n' c')).run Tryd.prog w = .ok (.bool a.isNone) w := fun w a n c n' c' => Lib.run_eql_slice_nil w _ _ a n c n' c' Tryd.underlying71
  cases ad with
  | none =>
    have hx : xs = [] := by
      obtain ⟨a, c', e, h1, h2, _⟩ := h.1
      simp only [Value.slice.injEq] at e
      obtain ⟨rfl, rfl, rfl⟩ := e
      exact List.eq_nil_of_length_eq_zero (by have := h2 rfl; omega)
    subst hx
    go_enter Tryd.func44, Tryd.ntmps44
    go_wp2_with first
      | ((with_reducible refine tot_done ?ht ?_); (case ht => kernel_rfl))
    go_ret
    exact ⟨_, _, rfl, fun h => absurd h (by simp), ((S.nil 70 Instr.cells 5).pick [0] rfl)⟩
  | some a0 =>
    go_enter Tryd.func44, Tryd.ntmps44
    go_wp2_with first
      | ((with_reducible apply wps_build0 (T := 71) (E := 70) Instr.cells 5 S); (case hr => intro w; kernel_rfl); clear S; intro bz wz S)
      | ((with_reducible apply wps_appends elem_In incells inone (by decide) S 0 (j := 1)); (case hx => rfl); (case hy => rfl); (case hi => rfl); (case hj => rfl); (case hl => first | omega | (simp; omega)); clear S; intro az nz cz wz hnz S; simp only [List.set_cons_zero] at S)
      | ((with_reducible refine tot_done ?ht ?_); (case ht => kernel_rfl))
    go_ret
    obtain rfl : nz = xs.length := by have := hnz.out; simp at this; omega
    simp only [List.nil_append] at S
    refine ⟨_, _, rfl, fun h0 => ?_, S.pick [0] rfl⟩
    obtain ⟨F, hF⟩ := S.get (i := 0) rfl
    rcases hF.1.2 with ⟨_, e⟩ | ⟨g, cap, cur, e, _⟩
    · omega
    · simp only [Value.slice.injEq] at e; exact ⟨g, e.1⟩
set_option maxRecDepth 100000 in
/-- slices.Clone. -/
theorem clone_Pl {ad : Option Addr} {n c : Nat} {xs : List _} (w : World) (F : Nat → Prop) (h : (Sl true Place.cells 5 (.slice ad n c) xs).at_ w F) (hn : xs.length ≤ 4294967296) :
    Calls Tryd.prog 45 #[.slice ad n c] w fun e w' => ∃ ad' c', e = .returned (.slice ad' xs.length c') ∧ (0 < xs.length → ∃ R, ad' = some ⟨R, 0, none⟩) ∧ St (fun _ => False) w w' [Own 73 Place.cells 5 (.slice ad' xs.length c') xs] := by
  have S : St (fun _ => False) w w [Sl true Place.cells 5 (.slice ad n c) xs] := (St.init _ w).share rfl rfl h
  have hq : ∀ (w : World) (a : Option Addr) (n c n' c' : Nat), (binOp .eql 23 (.slice a n c) (.slice none n' c')).run Tryd.prog w = .ok (.bool a.isNone) w := fun w a n c n' c' => Lib.run_eql_slice_nil w _ _ a n c n' c' Tryd.underlying23
  cases ad with
  | none =>
    have hx : xs = [] := by
      obtain ⟨a, c', e, h1, h2, _⟩ := h.1
      simp only [Value.slice.injEq] at e
      obtain ⟨rfl, rfl, rfl⟩ := e
      exact List.eq_nil_of_length_eq_zero (by have := h2 rfl; omega)
    subst hx
    go_enter Tryd.func45, Tryd.ntmps45
    go_wp2_with first
      | ((with_reducible refine tot_done ?ht ?_); (case ht => kernel_rfl))
    go_ret
    exact ⟨_, _, rfl, fun h => absurd h (by simp), ((S.nil 73 Place.cells 5).pick [0] rfl)⟩
  | some a0 =>
    go_enter Tryd.func45, Tryd.ntmps45
    go_wp2_with first
      | ((with_reducible apply wps_build0 (T := 23) (E := 73) Place.cells 5 S); (case hr => intro w; kernel_rfl); clear S; intro bz wz S)
      | ((with_reducible apply wps_appends elem_Pl plcells plone (by decide) S 0 (j := 1)); (case hx => rfl); (case hy => rfl); (case hi => rfl); (case hj => rfl); (case hl => first | omega | (simp; omega)); clear S; intro az nz cz wz hnz S; simp only [List.set_cons_zero] at S)
      | ((with_reducible refine tot_done ?ht ?_); (case ht => kernel_rfl))
    go_ret
    obtain rfl : nz = xs.length := by have := hnz.out; simp at this; omega
    simp only [List.nil_append] at S
    refine ⟨_, _, rfl, fun h0 => ?_, S.pick [0] rfl⟩
    obtain ⟨F, hF⟩ := S.get (i := 0) rfl
    rcases hF.1.2 with ⟨_, e⟩ | ⟨g, cap, cur, e, _⟩
    · omega
    · simp only [Value.slice.injEq] at e; exact ⟨g, e.1⟩
set_option maxRecDepth 100000 in
/-- slices.Clone. -/
theorem clone_Sta {ad : Option Addr} {n c : Nat} {xs : List _} (w : World) (F : Nat → Prop) (h : (Sl true Start.cells 4 (.slice ad n c) xs).at_ w F) (hn : xs.length ≤ 4294967296) :
    Calls Tryd.prog 46 #[.slice ad n c] w fun e w' => ∃ ad' c', e = .returned (.slice ad' xs.length c') ∧ (0 < xs.length → ∃ R, ad' = some ⟨R, 0, none⟩) ∧ St (fun _ => False) w w' [Own 96 Start.cells 4 (.slice ad' xs.length c') xs] := by
  have S : St (fun _ => False) w w [Sl true Start.cells 4 (.slice ad n c) xs] := (St.init _ w).share rfl rfl h
  have hq : ∀ (w : World) (a : Option Addr) (n c n' c' : Nat), (binOp .eql 24 (.slice a n c) (.slice none n' c')).run Tryd.prog w = .ok (.bool a.isNone) w := fun w a n c n' c' => Lib.run_eql_slice_nil w _ _ a n c n' c' Tryd.underlying24
  cases ad with
  | none =>
    have hx : xs = [] := by
      obtain ⟨a, c', e, h1, h2, _⟩ := h.1
      simp only [Value.slice.injEq] at e
      obtain ⟨rfl, rfl, rfl⟩ := e
      exact List.eq_nil_of_length_eq_zero (by have := h2 rfl; omega)
    subst hx
    go_enter Tryd.func46, Tryd.ntmps46
    go_wp2_with first
      | ((with_reducible refine tot_done ?ht ?_); (case ht => kernel_rfl))
    go_ret
    exact ⟨_, _, rfl, fun h => absurd h (by simp), ((S.nil 96 Start.cells 4).pick [0] rfl)⟩
  | some a0 =>
    go_enter Tryd.func46, Tryd.ntmps46
    go_wp2_with first
      | ((with_reducible apply wps_build0 (T := 24) (E := 96) Start.cells 4 S); (case hr => intro w; kernel_rfl); clear S; intro bz wz S)
      | ((with_reducible apply wps_appends elem_Sta stcells stone (by decide) S 0 (j := 1)); (case hx => rfl); (case hy => rfl); (case hi => rfl); (case hj => rfl); (case hl => first | omega | (simp; omega)); clear S; intro az nz cz wz hnz S; simp only [List.set_cons_zero] at S)
      | ((with_reducible refine tot_done ?ht ?_); (case ht => kernel_rfl))
    go_ret
    obtain rfl : nz = xs.length := by have := hnz.out; simp at this; omega
    simp only [List.nil_append] at S
    refine ⟨_, _, rfl, fun h0 => ?_, S.pick [0] rfl⟩
    obtain ⟨F, hF⟩ := S.get (i := 0) rfl
    rcases hF.1.2 with ⟨_, e⟩ | ⟨g, cap, cur, e, _⟩
    · omega
    · simp only [Value.slice.injEq] at e; exact ⟨g, e.1⟩
set_option maxRecDepth 100000 in
theorem zero_Hdr : zeroIs Tryd.prog 71 1 (vcell (.slice none 0 0)) := ⟨_, .slice none 0 0, rfl, by kernel_rfl, by kernel_rfl, rfl, by decide⟩
theorem within_or (n a b : Int) : withinE n a b = 0 ∨ withinE n a b = 10 := by unfold withinE; split <;> simp
theorem within_iff {n a b : Int} : withinE n a b = 0 ↔ a ≤ n ∧ n ≤ b := by
  unfold withinE; split <;> simp <;> omega
theorem sizes_eq (c : Cfg) : firstE [withinE c.lps.length 1 32, withinE c.programs.length 1 32, withinE c.fin 1 1073741824, withinE c.fuel 1 1024, withinE c.fan 0 8] = sizesE c := by
  obtain ⟨l, hl⟩ : ∃ l, [withinE c.lps.length 1 32, withinE c.programs.length 1 32, withinE c.fin 1 1073741824, withinE c.fuel 1 1024, withinE c.fan 0 8] = l := ⟨_, rfl⟩
  have hz : firstE l = 0 ↔ sizesOk c := by
    rw [firstE_zero, ← hl]
    simp only [List.mem_cons, List.not_mem_nil, or_false, forall_eq_or_imp, forall_eq, within_iff, sizesOk]
    omega
  rw [hl]
  unfold sizesE
  split
  · exact hz.2 ‹_›
  · rcases firstE_mem l with h | h
    · exact absurd (hz.1 h) ‹_›
    · have hn : firstE l ≠ 0 := fun h => absurd (hz.1 h) ‹_›
      rw [← hl] at h
      simp only [List.mem_cons, List.not_mem_nil, or_false] at h
      rw [hl] at h
      rcases h with h | h | h | h | h <;> rw [h] at hn ⊢
      · exact (within_or _ _ _).resolve_left hn
      · exact (within_or _ _ _).resolve_left hn
      · exact (within_or _ _ _).resolve_left hn
      · exact (within_or _ _ _).resolve_left hn
      · exact (within_or _ _ _).resolve_left hn
structure Mid (c : Cfg) : Prop where
  p : c.programs.length ≤ 65536
  l : c.lps.length ≤ 65536
  s : c.starts.length ≤ 65536
set_option maxRecDepth 100000 in
set_option maxHeartbeats 4000000 in
theorem mcheck_calls (vs hs : List Value) (c : Cfg) (w : World) (F F2 : Nat → Prop) (h : (CfgA true vs hs c).at_ w F) (ht : Tab.at_ w F2) (hm : Mid c) :
    Calls Tryd.prog 43 #[.agg vs.toArray] w fun r w' => r = .returned (.int .i64 (cfgE c)) ∧ Below w.heap.size w w' := by
  have S : St (fun _ => False) w w [CfgA true vs hs c, Tab] := ((St.init _ w).share rfl rfl ht).share rfl rfl h
  obtain ⟨aP, cP, aL, cL, aS, cS, rfl, hlen, S⟩ := S.cfg 0 rfl
  replace S := S.pick [0, 1, 2, 3, 5] rfl
  simp only [pick, nth] at S
  clear h ht
  have hm1 := hm.p
  have hm2 := hm.l
  have hm3 := hm.s
  obtain ⟨ps, ls, ss, fin, fuel, fan⟩ := c
  simp only at *
  obtain ⟨r, hr⟩ : ∃ r, cfgE ⟨ps, ls, ss, fin, fuel, fan⟩ = r := ⟨_, rfl⟩
  have hq := sizes_eq ⟨ps, ls, ss, fin, fuel, fan⟩
  simp only at hq
  have e : firstE [firstE [withinE ls.length 1 32, withinE ps.length 1 32, withinE fin 1 1073741824, withinE fuel 1 1024, withinE fan 0 8], (if 256 < ss.length then 11 else 0), firstE (ps.map codeE),
      (if (∀ p ∈ ls, plOk ps.length p) ∧ (∀ s ∈ ss, stOk ls.length s) then 0 else 14), (if ∀ s ∈ ss, 0 ≤ s.at_ ∧ s.at_ ≤ fin then 0 else 18)] = r := by
    rw [← hr, hq]; rfl
  rw [hr]
  obtain ⟨x1, hx1⟩ : ∃ x, firstE [withinE ls.length 1 32, withinE ps.length 1 32, withinE fin 1 1073741824, withinE fuel 1 1024, withinE fan 0 8] = x := ⟨_, rfl⟩
  obtain ⟨x2, hx2⟩ : ∃ x : Int, (if 256 < ss.length then 11 else 0) = x := ⟨_, rfl⟩
  obtain ⟨x3, hx3⟩ : ∃ x, firstE (ps.map codeE) = x := ⟨_, rfl⟩
  obtain ⟨x4, hx4⟩ : ∃ x : Int, (if (∀ p ∈ ls, plOk ps.length p) ∧ (∀ s ∈ ss, stOk ls.length s) then 0 else 14) = x := ⟨_, rfl⟩
  obtain ⟨x5, hx5⟩ : ∃ x : Int, (if ∀ s ∈ ss, 0 ≤ s.at_ ∧ s.at_ ≤ fin then 0 else 18) = x := ⟨_, rfl⟩
  have c1 := sizes_calls aP aL aS ps.length cP ls.length cL ss.length cS fin fuel fan
  have c2 := starts_calls aP aL aS ps.length cP ls.length cL ss.length cS fin fuel fan
  have c3 := fun w F1 F2 F3 h1 h2 h3 => programs_calls aP aL aS cP ls.length cL ss.length cS fin fuel fan hs ps w F1 F2 F3 h1 h2 h3 hm1
  have c4 := fun w F1 F2 h1 h2 => ends_calls aP aL aS ps.length cP cL cS fin fuel fan ls ss w F1 F2 h1 h2 hm2 hm3
  have c5 := fun w F1 h1 => times_calls aP aL aS ps.length cP ls.length cL cS fin fuel fan ss w F1 h1 hm3
  rw [hx1] at c1 e
  rw [hx2] at c2 e
  rw [hx3] at c3 e
  rw [hx4] at c4 e
  rw [hx5] at c5 e
  clear hx1 hx2 hx3 hx4 hx5 hr hq
  have C1 := Lib.hid c1
  have C2 := Lib.hid c2
  have C3 := Lib.hid c3
  have C4 := Lib.hid c4
  have C5 := Lib.hid c5
  have E := Lib.hid e
  clear c1 c2 c3 c4 c5 e
  go_enter Tryd.func43, Tryd.ntmps43
  go_wp2_with first
    | ((with_reducible apply wps_boxa S); (case hx => rfl); clear S; intro bx wz S)
    | ((with_reducible refine tot_done ?ht ?_); (case ht => kernel_rfl))
    | ((with_reducible apply wps_boxa S); (case hx => rfl); clear S; intro bz wz S)
    | ((with_reducible apply wps_box1 (v := .int _ _) S); (case hx => rfl); (case h1 => rfl); clear S; intro bz wz S)
    | ((with_reducible apply wps_box1 (v := .bool _) S); (case hx => rfl); (case h1 => rfl); clear S; intro bz wz S)
    | ((with_reducible apply wps_box1 (v := .slice _ _ _) S); (case hx => rfl); (case h1 => rfl); clear S; intro bz wz S)
    | ((with_reducible apply wps_box1 (v := .pointer _) S); (case hx => rfl); (case h1 => rfl); clear S; intro bz wz S)
    | ((with_reducible apply wps_box1 (v := .map _) S); (case hx => rfl); (case h1 => rfl); clear S; intro bz wz S)
    | ((with_reducible apply wps_box1 (v := .string _) S); (case hx => rfl); (case h1 => rfl); clear S; intro bz wz S)
    | ((with_reducible apply wps_box1 (v := .func _ _ _) S); (case hx => rfl); (case h1 => rfl); clear S; intro bz wz S)
    | ((with_reducible apply wps_loada (T := 26) (k := 6) S 0); (case hx => rfl); (case hi => rfl); (case hT => decide +kernel); (case hk => exact Nat.le_of_ble_eq_true rfl))
  (refine wp_region_w (soft := [0, 1, 2, 3, 4, 5, 6, 7, 8, 9]) S ?hm ?hB ?_); (case hm => kernel_rfl); (case hB => decide +kernel); clear S
  iterate 10
    (with_reducible apply softs_cons)
    (case hw =>
      (with_reducible apply soft_of); (case hi => rfl)
      intro T wz S
      simp only [List.cons_append, List.nil_append] at S
      go_wp2_with first
        | (go_at_call 61; refine Calls.mono (C1.out _) ?_; rintro e wz ⟨rfl, hE⟩; replace S := S.ext (Keep.of_below hE); clear hE)
        | (go_at_call 62; refine Calls.mono (C2.out _) ?_; rintro e wz ⟨rfl, hE⟩; replace S := S.ext (Keep.of_below hE); clear hE)
        | (go_at_call 63; refine Calls.mono (C3.out _ _ _ _ (S.get (i := 2) rfl).choose_spec (S.get (i := 1) rfl).choose_spec (S.get (i := 5) rfl).choose_spec) ?_; rintro e wz ⟨rfl, hE⟩; replace S := S.ext (Keep.of_below hE); clear hE)
        | (go_at_call 64; refine Calls.mono (C4.out _ _ _ (S.get (i := 3) rfl).choose_spec (S.get (i := 4) rfl).choose_spec) ?_; rintro e wz ⟨rfl, hE⟩; replace S := S.ext (Keep.of_below hE); clear hE)
        | (go_at_call 65; refine Calls.mono (C5.out _ _ (S.get (i := 4) rfl).choose_spec) ?_; rintro e wz ⟨rfl, hE⟩; replace S := S.ext (Keep.of_below hE); clear hE)
        | ((with_reducible refine tot_done ?ht ?_); (case ht => kernel_rfl))
        | ((with_reducible apply wps_loada (T := 26) (k := 6) S 0); (case hx => rfl); (case hi => rfl); (case hT => decide +kernel); (case hk => exact Nat.le_of_ble_eq_true rfl))
      exact ⟨rfl, S⟩)
    (case hs => exact ⟨_, rfl, by kernel_rfl⟩)
  refine softs_nil ?_
  repeat'
    (first
      | ((with_reducible apply W_hard1 (i := 10)); (case hn => rfl); (case hr => decide +kernel))
      | ((with_reducible apply W_hard1 (i := 11)); (case hn => rfl); (case hr => decide +kernel))
      | ((with_reducible apply W_hard1 (i := 12)); (case hn => rfl); (case hr => decide +kernel))
      | ((with_reducible apply W_hard2 (i := 10) (i' := 11)); (case hn => rfl); (case hr => decide +kernel))
      | ((with_reducible apply W_hard2 (i := 10) (i' := 12)); (case hn => rfl); (case hr => decide +kernel))
      | ((with_reducible apply W_hard2 (i := 11) (i' := 12)); (case hn => rfl); (case hr => decide +kernel)))
    all_goals
      intro wz S
      (with_reducible apply hard_of); (case hi => rfl)
      simp only [List.cons_append, List.nil_append] at S
      try simp only [pick, nth] at S
      go_wp2_with first
        | ((with_reducible apply wps_buildSlice (T := 135) (E := 42) (cs := #[.int .i64 x1, .int .i64 x2, .int .i64 x3, .int .i64 x4, .int .i64 x5]) S); (case hr => intro w; kernel_rfl); clear S; intro bz wz S)
        | (go_at_call 60; refine Calls.mono (first_calls _ [x1, x2, x3, x4, x5] _ _ (blk_sl _ intE_len (S.get (i := 6) rfl).choose_spec rfl rfl) (Nat.le_of_ble_eq_true rfl)) ?_; rintro e wz ⟨rfl, hE⟩; replace S := S.ext (Keep.of_below hE); clear hE)
        | ((with_reducible refine tot_done ?ht ?_); (case ht => kernel_rfl))
        | ((with_reducible apply wps_loada (T := 26) (k := 6) S 0); (case hx => rfl); (case hi => rfl); (case hT => decide +kernel); (case hk => exact Nat.le_of_ble_eq_true rfl))
        | ((with_reducible apply wps_loada (T := 26) (k := 6) S 1); (case hx => rfl); (case hi => rfl); (case hT => decide +kernel); (case hk => exact Nat.le_of_ble_eq_true rfl))
        | ((with_reducible apply wps_loada (T := 26) (k := 6) S 2); (case hx => rfl); (case hi => rfl); (case hT => decide +kernel); (case hk => exact Nat.le_of_ble_eq_true rfl))
        | ((with_reducible apply wps_loada (T := 26) (k := 6) S 3); (case hx => rfl); (case hi => rfl); (case hT => decide +kernel); (case hk => exact Nat.le_of_ble_eq_true rfl))
        | ((with_reducible apply wps_loada (T := 26) (k := 6) S 4); (case hx => rfl); (case hi => rfl); (case hT => decide +kernel); (case hk => exact Nat.le_of_ble_eq_true rfl))
        | ((with_reducible apply wps_loada (T := 26) (k := 6) S 5); (case hx => rfl); (case hi => rfl); (case hT => decide +kernel); (case hk => exact Nat.le_of_ble_eq_true rfl))
      first
        | refine ⟨_, S.pick [1, 2, 3, 4, 5, 6, 7, 8, 9, 10, 0] rfl, ?_⟩
        | refine ⟨_, S.pick [1, 2, 3, 4, 5, 6, 7, 8, 9, 0] rfl, ?_⟩
        | refine ⟨_, S.pick [1, 2, 3, 4, 5, 6, 7, 8, 0] rfl, ?_⟩
        | refine ⟨_, S.pick [1, 2, 3, 4, 5, 6, 7, 0] rfl, ?_⟩
        | refine ⟨_, S.pick [1, 2, 3, 4, 5, 6, 0] rfl, ?_⟩
        | refine ⟨_, S, ?_⟩
  (with_reducible apply W_done); (case hn => rfl); (case hr => decide +kernel)
  clear S
  intro wz S
  simp only [List.cons_append, List.nil_append] at S
  try simp only [pick, nth] at S
  go_wp2_with first
    | ((with_reducible refine tot_done ?ht ?_); (case ht => kernel_rfl))
    | ((with_reducible apply wps_text S); (case hm => kernel_rfl); (case hB => decide +kernel); clear S; intro wz S)
    | ((with_reducible apply wps_loada (T := 26) (k := 6) S 0); (case hx => rfl); (case hi => rfl); (case hT => decide +kernel); (case hk => exact Nat.le_of_ble_eq_true rfl))
  go_ret
  exact ⟨ret_int E.out, S.below⟩
end Go.Proofs.YtfiiaechippboaaDoor
/- 'copy' between blocks that are known whole. Over any program. -/
namespace Go.Proofs.YtfiiaechippboaaDoor.Mem
open Go Go.RowKit Reg
section
variable {P : Program} {ops : Array Oper} {rest : List Oper} {a : Act} {Q : Exit → Act → World → Prop} {d : Option Tmp} {tt : TypeId} {p : String} {af : Array Edge} {gd : Option (Nat × Bool)} {x y : Operand}
variable {G : Nat → Prop} {w0 w w' : World} {L : List Asn}
theorem wps_copyb {b o dLen dCap b2 o2 sLen sCap : Nat} {cs cs2 : Array Value} {t t2 dT sT elem : TypeId} {sh : Bool} (S : St G w0 w L) (i : Nat) (hi : L[i]? = some (Blk false b cs t)) (j : Nat) (hj : L[j]? = some (Blk sh b2 cs2 t2)) (us : List Value)
    (hx : a.eval x = .slice (some ⟨b, o, none⟩) dLen dCap) (hy : a.eval y = .slice (some ⟨b2, o2, none⟩) sLen sCap) (hu : P.underlying dT = some (.slice elem)) (hsz : (match P.info? elem with | some i => i.size == 1 | none => false) = true)
    (hn : us.length = Nat.min sLen dLen) (hsrc : ∀ k v, us[k]? = some v → cs2[o2 + k]? = some v) (hfit : o + us.length ≤ cs.size) (h1 : us.all Value.oneCell' = true)
    (next : ∀ w', St G w0 w' (L.set i (Blk false b (splice cs o us) t)) → wpList P ops Q rest (a.put d (.int .i64 us.length)) w') (hgd : gOk gd ops a = true := by with_unfolding_all rfl) :
    wpList P ops Q ({ dst := d, op := .call { callee := .builtin .copy, args := #[x, y], argTypes := #[dT, sT] }, type := tt, pos := p, after := af, guard := gd } :: rest) a w :=
  wpList_ok hgd fun K hK => by
    have hs : (P.info? elem).map (·.size) = some 1 := by
      cases h : P.info? elem with
      | none => rw [h] at hsz; simp at hsz
      | some i => rw [h] at hsz; simpa using hsz
    have hr := run_copy_row (P := P) w dT sT tt elem b o dLen dCap ⟨b2, o2, none⟩ sLen sCap cs t us hu hs (S.blk i hi) hn
      (fun k v hk => by
        have : (Addr.add ⟨b2, o2, none⟩ k) = ⟨b2, o2 + k, none⟩ := by simp [Addr.add]
        rw [this, cell_of (S.blk j hj)]; exact hsrc k v hk) hfit (by simpa using h1)
    unfold Oper.wp execOp
    simp [resolve, invoke, builtin, hx, hy, hr, Result.andThen]
    refine hK _ _ (next _ (S.step hi rfl fun F hF => ⟨F, setRow_keep.mono (fun z _ hn e => hn ((hF.2 z).2 e)), ⟨?_, hF.2⟩, fun _ h => .inl h⟩))
    rw [show splice cs o us = (List.take o cs.toList ++ (us ++ List.drop (o + us.length) cs.toList)).toArray by simp [splice]]
    exact setRow_heap w b cs _ t _ (S.blk i hi)
end
end Go.Proofs.YtfiiaechippboaaDoor.Mem

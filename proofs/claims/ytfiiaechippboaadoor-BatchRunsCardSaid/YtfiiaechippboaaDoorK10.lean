import Derived.Test.YtfiiaechippboaaDoorK03
import Derived.RangeFuncNested
import Derived.RangeFuncBound
import Derived.RangeFuncCalls
import Derived.RangeFuncLeaves
import Derived.OrdersIn
import Derived.OwnWalkIn
import Derived.TacticsInMore
import Derived.LoopNIn
import Derived.LoopIn
import Derived.Test.YtfiiaechippboaaDoorK04
import Derived.RangeFuncSeq
import Derived.Test.YtfiiaechippboaaDoorK09
import Derived.Test.YtfiiaechippboaaDoorK15
import Derived.Test.YtfiiaechippboaaDoorK17
import Derived.Test.YtfiiaechippboaaDoorK22
import Derived.Test.YtfiiaechippboaaDoorK24
/- Regions in a round of a range over a function (or in an iterator), walked as regions anywhere. Over any program. -/
namespace Go.Proofs.YtfiiaechippboaaDoor.Mem
open Go Go.RowKit Reg

/-- A fence that bars nothing, in a round or in none. -/
def Wide (F : Fence) : Prop := F = Fence.wide ∨ ∃ r, F = Fence.wide.inRound r
/-- No other end than the plain one. -/
def Only (K : Act → World → Prop) : Exit → Act → World → Prop
  | .normal, a, w => K a w
  | _, _, _ => False
def noDefer (o : Oper) : Bool := match o.op with | .defer _ => false | _ => true
section
variable {F : Fence} {n : Nat} {P : Program} {ops : Array Oper} {Q : Exit → Act → World → Prop} {md : Region.Mode} {K : Act → World → Prop}
end
end Go.Proofs.YtfiiaechippboaaDoor.Mem
/- A range over a function, in states: the iterator's contract, and the law for the statement. Over any program. -/
namespace Go.Proofs.YtfiiaechippboaaDoor.Mem
open Go Go.RowKit Reg

/-- A loop's record, and the block for the calls that its rounds put off. -/
def LoopA (l D : Nat) (r : Loop) : Asn where
  sh := false
  at_ := fun w F => w.heap[l]? = some (.loop r) ∧ w.heap[D]? = some (.deferred (some [])) ∧ l ≠ D ∧ ∀ b, F b ↔ b = l ∨ b = D
  loc := fun h hb => ⟨(hb _ ((h.2.2.2 _).2 (.inl rfl))).trans h.1, (hb _ ((h.2.2.2 _).2 (.inr rfl))).trans h.2.1, h.2.2⟩
  lt := fun h b hb => by
    rcases (h.2.2.2 b).1 hb with rfl | rfl
    · exact (Array.getElem?_eq_some_iff.1 h.1).1
    · exact (Array.getElem?_eq_some_iff.1 h.2.1).1
/-- The block alone. -/
def DefA (D : Nat) : Asn where
  sh := false
  at_ := fun w F => w.heap[D]? = some (.deferred (some [])) ∧ ∀ b, F b ↔ b = D
  loc := fun h hb => ⟨(hb _ ((h.2 _).2 rfl)).trans h.1, h.2⟩
  lt := fun h b hb => by obtain rfl := (h.2 b).1 hb; exact (Array.getElem?_eq_some_iff.1 h.1).1
section
variable {G : Nat → Prop} {w0 w w' : World} {L L' : List Asn} {A A' : Asn} {i : Nat}
end
/-- An iterator's contract: it goes through xs, and hands each one over as arguments, with new things of its own; T: what it reads, which is there in each round, and left as it was. -/
def IterC (P : Program) (gf : FuncId) (lb : Array Value) (T : List Asn) {α : Type} (xs : List α) (Made : α → Array Value → List Asn → Prop) : Prop :=
  ∀ (l : Nat) (G : Nat → Prop) (w0 W : World) (Φ Ψ : Nat → List Asn → Prop) (L : List Asn),
    (∀ (j : Nat) (x : α) (args : Array Value) (N L : List Asn) (W : World), xs[j]? = some x → Made x args N → Φ j L → St G w0 W (N ++ (T ++ L)) →
      YieldAt Fence.wide 0 P l args W fun e W' => ∃ L', St G w0 W' (T ++ L') ∧ ((e = .returned (.bool true) ∧ Φ (j + 1) L') ∨ (e = .returned (.bool false) ∧ Ψ (j + 1) L'))) →
    Φ 0 L → St G w0 W (T ++ L) →
    Calls P gf (#[.func (.yield l) #[] #[]] ++ lb) W fun e W' => (∃ v, e = .returned v) ∧ ∃ L', St G w0 W' (T ++ L') ∧ (Φ xs.length L' ∨ ∃ j, j ≤ xs.length ∧ Ψ j L')
/-- What is asked at the end of a round's body. -/
def roundQ (G : Nat → Prop) (w0 : World) (T : List Asn) (X : Asn) (Φ : List Asn → Prop) (Ψ : Code → List Asn → Prop) : Exit → Act → World → Prop
  | .normal, _, W => ∃ L, Φ L ∧ St G w0 W (T ++ (L ++ [X]))
  | .ret, _, W => ∃ L, Ψ .ret L ∧ St G w0 W (T ++ (L ++ [X]))
  | .exit id, _, W => ∃ L, Ψ (.exit id) L ∧ St G w0 W (T ++ (L ++ [X]))
  | .goto t, _, W => ∃ L, Ψ (.goto t) L ∧ St G w0 W (T ++ (L ++ [X]))
  | .panic _, _, _ => False
  | .outgrown, _, _ => False
section
variable {P : Program} {G : Nat → Prop} {w0 w : World} {L T : List Asn} {gf : FuncId} {lb : Array Value} {α : Type} {xs : List α} {Made : α → Array Value → List Asn → Prop}
  {g : Operand} {ps : Array Tmp} {assign body : Code} {Q : Exit → Act → World → Prop} {a : Act}
end
end Go.Proofs.YtfiiaechippboaaDoor.Mem
/- A region that draws its order and calls 'yield' once, behind all else that hangs on memory. Over any program. -/
namespace Go.Proofs.YtfiiaechippboaaDoor.Mem
open Go Go.RowKit Reg

def NoQ : Exit → Act → World → Prop := fun _ _ _ => False
section
variable {P : Program} {ops : Array Oper} {Q : Exit → Act → World → Prop} {y : Nat} {G : Nat → Prop} {w0 : World} {L : List Asn}
/-- As W, but that the operation y is one that asks for a round. -/
def WI (P : Program) (ops : Array Oper) (Q : Exit → Act → World → Prop) (y : Nat) (G : Nat → Prop) (w0 : World) (L : List Asn) : Nat → List Asn → Array Bool → Act → Prop
  | 0, T, listed, a => Region.ready .any ops listed = [] ∧ ∀ w, St G w0 w (L ++ T) → Q .normal a w
  | f + 1, T, listed, a => ∀ w, St G w0 w (L ++ T) → (Region.ready .any ops listed = [] → Q .normal a w) ∧
      ∀ i ∈ Region.ready .any ops listed, (i = y → wpOpIn Fence.wide 0 P ops Q i (wpAnyIn Fence.wide 0 P .any ops Q f (listed.setIfInBounds i true)) a w) ∧
        (i ≠ y → wpOp P ops (Tot [] NoQ) i (fun a' w' => ∃ T', St G w0 w' (L ++ T') ∧ WI P ops Q y G w0 L f T' (listed.setIfInBounds i true) a') a w)
/-- All these come ahead of y. -/
def aheadB (ops : Array Oper) (y : Nat) (soft : List Nat) : Bool := soft.all fun i => !(i == y) && ((masks .any ops.toList []).getD y 0).testBit i
def plainB (ops : Array Oper) (y : Nat) : Bool := (List.range ops.size).all fun i => i == y || ((ops[i]?).map noDefer).getD true
def HardQI (P : Program) (ops : Array Oper) (Q : Exit → Act → World → Prop) (y : Nat) (G : Nat → Prop) (w0 : World) (L : List Asn) (f : Nat) (listed : Array Bool) : Exit → Act → World → Prop := fun _ a' w' => ∃ T', St G w0 w' (L ++ T') ∧ WI P ops Q y G w0 L f T' listed a'
end
end Go.Proofs.YtfiiaechippboaaDoor.Mem
/- The walks of keys.Batches and of the iterator that it hands back. -/
namespace Go.Proofs.YtfiiaechippboaaDoor
open Go Go.RowKit Reg Mem

/-- Events in order, parted by their times. -/
def batchesE : List Event → List (List Event)
  | [] => []
  | x :: l => (x :: l.takeWhile (fun y => y.key.at_ == x.key.at_)) :: batchesE (l.dropWhile (fun y => y.key.at_ == x.key.at_))
termination_by l => l.length
decreasing_by
  have : (l.dropWhile (fun y => y.key.at_ == x.key.at_)).length ≤ l.length := (List.dropWhile_sublist _).length_le
  simp; omega
/-- What is handed over in a round. -/
def MadeB (g : List Event) (args : Array Value) (N : List Asn) : Prop := ∃ a v, args = #[.int .i64 a, v] ∧ a = atE g ∧ N = [Mem.Own 54 Event.cells 7 v g]
def BtRel1 (b : Nat) (ad : Option Addr) (cp : Nat) (s : List Event) (G : Nat → Prop) (w0 : World) (Φ : Nat → List Asn → Prop) (i : Value) (wr : World) : Prop :=
  ∃ (k p : Nat) (L : List Asn), p ≤ s.length ∧ i = .int .i64 p ∧ Hid ((batchesE s).drop k = batchesE (s.drop p)) ∧ Hid (k ≤ (batchesE s).length) ∧ Φ k L ∧ St G w0 wr (Blk true b #[.slice ad s.length cp] 29 :: Sl true Event.cells 7 (.slice ad s.length cp) s :: L)
def BtRel2 (b : Nat) (ad : Option Addr) (cp : Nat) (s : List Event) (G : Nat → Prop) (w0 : World) (L : List Asn) (p : Nat) (x : Event) (j : Value) (wr : World) : Prop :=
  ∃ q : Nat, p < q ∧ q ≤ s.length ∧ j = .int .i64 q ∧ Hid (∀ (r : Nat) y, p ≤ r → r < q → s[r]? = some y → y.key.at_ = x.key.at_) ∧ St G w0 wr (Blk true b #[.slice ad s.length cp] 29 :: Sl true Event.cells 7 (.slice ad s.length cp) s :: L)
end Go.Proofs.YtfiiaechippboaaDoor
/- The walk of batch.replay. -/
namespace Go.Proofs.YtfiiaechippboaaDoor
open Go Go.RowKit Reg Mem

section
variable {P : Program} {fn : Func} {R : Ending → World → Prop} {G : Nat → Prop} {w0 w : World} {L : List Asn} {a : Act}
end
theorem batchC_len {c : Cfg} (h : CfgFine c) (lp : Int) (s : State) (l : List Event) : (batchC c lp s l).2.length ≤ 8 * l.length := by
  have h2 := h.sizes.2.2.2.2
  have := ones_len (p := progOf c lp) (n := c.lps.length) (fin := c.fin) (fuel := c.fuel) (lp := lp) (at_ := atE l) h2.1 (sortE l) (s, [])
  rw [sortE_len] at this
  have e : (s, ([] : List Event)).2.length = 0 := rfl
  rw [e] at this
  unfold batchC batchE
  have h3 : c.fan * l.length ≤ 8 * l.length := Int.mul_le_mul_of_nonneg_right (by omega) (by omega)
  omega
/-- What is wrong with events of a process, but for their times. -/
def aloneE (n : Nat) (lp : Int) (l : List Event) : Int := if lp < 0 ∨ (n : Int) ≤ lp then 10 else if ¬ (∀ x ∈ l, x.dst = lp) then 10 else if twiceB l = true then 13 else 0
def stepM (c : Cfg) (lp : Int) (st : State × List Event) (g : List Event) : State × List Event := ((batchC c lp st.1 g).1, st.2 ++ (batchC c lp st.1 g).2)
/-- Batches, one behind the other. -/
def manyE (c : Cfg) (lp : Int) (s : State) (l : List Event) : State × List Event := (batchesE (sortE l)).foldl (stepM c lp) (s, [])
def ManyPost (c : Cfg) (lp : Int) (s : State) (l : List Event) (w : World) (r : Ending) (w' : World) : Prop :=
  (aloneE c.lps.length lp l ≠ 0 ∧ r = .returned (.tuple #[.agg #[.int .i64 0, .int .i64 0, .int .i64 0, .int .i64 0], .slice none 0 0, .int .i64 (aloneE c.lps.length lp l)]) ∧ Below w.heap.size w w') ∨
  (aloneE c.lps.length lp l = 0 ∧ ∃ v, r = .returned (.tuple #[.agg #[.int .i64 (manyE c lp s l).1.n0, .int .i64 (manyE c lp s l).1.n1, .int .i64 (manyE c lp s l).1.n2, .int .i64 (manyE c lp s l).1.n3], v, .int .i64 0]) ∧
    St (fun _ => False) w w' [Mem.Own 54 Event.cells 7 v (manyE c lp s l).2])
def manyC (c : Cfg) (lp : Int) (s : State) (l : List Event) : State × List Event := if aloneE c.lps.length lp l = 0 then manyE c lp s l else (⟨0, 0, 0, 0⟩, [])
def RpPhi (c : Cfg) (lp : Int) (s : State) (gs : List (List Event)) (n b4 b5 b6 b8 b9 b10 b12 R : Nat) (vs hs : List Value) (k : Nat) (L : List Asn) : Prop :=
  ∃ (st : State × List Event) (v : Value), Hid (st = (gs.take k).foldl (stepM c lp) (s, [])) ∧ Hid (st.2.length ≤ k * (8 * n)) ∧
    L = [Mem.Own 54 Event.cells 7 v st.2, Blk false b12 #[v] 29, Blk false b6 #[.int .i64 st.1.n0, .int .i64 st.1.n1, .int .i64 st.1.n2, .int .i64 st.1.n3] 28, Blk false b4 #[.pointer (some ⟨R, 0, none⟩)] 32, Blk false b5 #[.int .i64 lp] 3,
      ModA true 93 R vs hs c, Tab, Blk false b8 #[.int .i64 0, .int .i64 0, .int .i64 0, .int .i64 0] 28, Blk false b9 #[.slice none 0 0] 29, Blk false b10 #[.int .i64 0] 42]
end Go.Proofs.YtfiiaechippboaaDoor
/- The walks of batch.Replay and batch.Sends. -/
namespace Go.Proofs.YtfiiaechippboaaDoor
open Go Go.RowKit Reg Mem

end Go.Proofs.YtfiiaechippboaaDoor
/- Plain: what a process makes of batches in two parts, and of events in another order. No program in sight. -/
namespace Go.Proofs.YtfiiaechippboaaDoor
open Go Go.RowKit Mem

def isEarly (t : Int) (x : Event) : Bool := decide (x.key.at_ < t)
def earlyE (t : Int) (l : List Event) : List Event := l.filter (isEarly t)
def lateE (t : Int) (l : List Event) : List Event := l.filter (fun x => !isEarly t x)
end Go.Proofs.YtfiiaechippboaaDoor
/- The walk of the reference's Many. -/
namespace Go.Proofs.YtfiiaechippboaaDoor
open Go Go.RowKit Reg Mem

def RMnRel (M : List Asn) (b6 : Nat) (c : Cfg) (lp : Int) (s : State) (sl : List Event) (w : World) (out i : Value) (wr : World) : Prop :=
  ∃ (j : Nat) (st : State × List Event) (pre : List (List Event)), j ≤ sl.length ∧ i = .int .i64 j ∧ Hid (batchesE sl = pre ++ batchesE (sl.drop j)) ∧ Hid (st = pre.foldl (stepM c lp) (s, [])) ∧ Hid (st.2.length ≤ 8 * j) ∧
    St (fun _ => False) w wr (Mem.Own 54 Event.cells 7 out st.2 :: Blk false b6 #[.int .i64 st.1.n0, .int .i64 st.1.n1, .int .i64 st.1.n2, .int .i64 st.1.n3] 28 :: M)
def RMn2Rel (L : List Asn) (sl : List Event) (x : Event) (j : Nat) (w : World) (i : Value) (wr : World) : Prop :=
  ∃ q : Nat, j ≤ q ∧ q ≤ sl.length ∧ i = .int .i64 q ∧ Hid (∀ (r : Nat) y, j ≤ r → r < q → sl[r]? = some y → y.key.at_ = x.key.at_) ∧ St (fun _ => False) w wr L
end Go.Proofs.YtfiiaechippboaaDoor
/- The walks of the laws BatchRuns and BatchMany. -/
namespace Go.Proofs.YtfiiaechippboaaDoor
open Go Go.RowKit Reg Mem

theorem evsPost {l : List Event} {b : Nat} (hb : l.length ≤ b) (h : b ≤ 65536) : ∀ v1 v2 w F1 F2, (Sl true Event.cells 7 v1 l).at_ w F1 → (Sl true Event.cells 7 v2 l).at_ w F2 → Calls Tryd.prog 16 #[v1, v2] w fun r w' => r = .returned (.bool true) ∧ Below w.heap.size w w' := fun v1 v2 w F1 F2 h1 h2 => by
  have := evseq_calls v1 v2 l l w F1 F2 h1 h2 (by omega) (by omega)
  rwa [decide_eq_true rfl] at this
theorem atE_mem {l : List Event} {b : Int} (h : ∀ x ∈ l, 0 ≤ x.key.at_ ∧ x.key.at_ ≤ b) (hb : 0 ≤ b) : 0 ≤ atE l ∧ atE l ≤ b := by
  cases l with
  | nil => exact ⟨Int.le_refl _, hb⟩
  | cons x l => exact h x (by simp)
set_option maxRecDepth 100000 in
set_option maxHeartbeats 16000000 in
theorem batchRuns_calls (vs hs : List Value) (c : Cfg) (lp : Int) (s : State) (v : Value) (l : List Event) (w : World) (F F2 F3 : Nat → Prop) (h : (CfgA true vs hs c).at_ w F) (hw : Wide c) (hwb : WideB c) (h2 : (Sl true Event.cells 7 v l).at_ w F2) (hlen : l.length ≤ 9223372036854775807) (ht : Tab.at_ w F3) :
    Calls Tryd.prog 3 #[.agg vs.toArray, .agg #[.int .i64 lp, .int .i64 s.n0, .int .i64 s.n1, .int .i64 s.n2, .int .i64 s.n3, v]] w fun r w' => r = .returned (.bool true) ∧ Below w.heap.size w w' := by
  have S : St (fun _ => False) w w [CfgA true vs hs c, Sl true Event.cells 7 v l, Tab] := (((St.init _ w).share rfl rfl ht).share (A := Sl true Event.cells 7 v l) rfl rfl h2).share rfl rfl h
  clear h h2 ht
  obtain ⟨ad, cp, rfl, _⟩ := (S.sl 1 rfl).elim fun _ h => h.form
  obtain ⟨aP, cP, aL, cL, aS, cS, rfl, _, _⟩ := S.cfg 0 rfl
  have HMd := Lib.hid fun w F F2 h ht => made_calls [.slice aP c.programs.length cP, .slice aL c.lps.length cL, .slice aS c.starts.length cS, .int .i64 c.fin, .int .i64 c.fuel, .int .i64 c.fan] hs c w F F2 h hw hwb ht
  have HTm := Lib.hid fun w F h => timely_calls (.slice ad l.length cp) l w F h hlen
  clear hw hwb
  go_enter Tryd.func3, Tryd.ntmps3
  go_wp2_with first | ((with_reducible apply wps_boxa (E := 26) S); (case hx => rfl); clear S; intro bx wz S) | ((with_reducible apply wps_boxa (E := 31) S); (case hx => rfl); clear S; intro by_ wz S) | ((with_reducible apply wps_loada (T := 26) (k := 6) S 1); (case hx | hi => rfl); (case hk => exact Nat.le_of_ble_eq_true rfl); (case hT => decide +kernel))
  refine Calls.mono (HMd.out _ _ _ (S.get (i := 2) rfl).choose_spec (S.get (i := 4) rfl).choose_spec) ?_
  clear HMd
  rintro r wz ⟨pv, vs2, hs2, rfl, (⟨hm, rfl, T⟩ | ⟨hm, R, vs3, hs3, rfl, T⟩)⟩
  · replace S := ((S.join T rfl).cfgShare 0 rfl).pick [0, 1, 2, 3, 4, 5] rfl
    repeat (first | simp only at S | simp only [pick] at S | simp only [nth] at S | simp only [List.set_cons_succ] at S | simp only [List.set_cons_zero] at S | simp only [List.setIfInBounds_toArray] at S | simp only [setAll] at S | simp only [List.cons_append] at S | simp only [List.nil_append] at S | simp only [List.append_nil] at S)
    clear T hm
    obtain ⟨aP2, cP2, aL2, cL2, aS2, cS2, rfl, _, _⟩ := S.cfg 0 rfl
    go_wp2_with first | go_skip | ((with_reducible apply wps_alloca (E := 37) S); (case hz => exact Tryd.zeroValue37); clear S; intro b6 wz S) | ((with_reducible apply wps_storea (T := 37) S 0 (vs := [.slice aP2 c.programs.length cP2, .slice aL2 c.lps.length cL2, .slice aS2 c.starts.length cS2, .int .i64 c.fin, .int .i64 c.fuel, .int .i64 c.fan]) (m := 6)); (case hx | hy | hi | hm | h1 => rfl); (case hn => exact Nat.le_of_ble_eq_true rfl); (case hT => decide +kernel); clear S; intro wz S; simp only [List.set_cons_zero, List.set_cons_succ, setAll, List.setIfInBounds_toArray] at S) | (go_at_call 11; refine Calls.mono (awake8_calls _ _ (S.get (i := 6) rfl).choose_spec) ?_; rintro e wz ⟨rfl, hE⟩; replace S := S.ext (Keep.of_below hE); clear hE)
    go_ret
    exact ⟨rfl, S.below⟩
  replace S := (((S.join T rfl).modShare 0 rfl).cfgShare 1 rfl).pick [0, 1, 2, 3, 4, 5, 6] rfl
  repeat (first | simp only at S | simp only [pick] at S | simp only [nth] at S | simp only [List.set_cons_succ] at S | simp only [List.set_cons_zero] at S | simp only [List.setIfInBounds_toArray] at S | simp only [setAll] at S | simp only [List.cons_append] at S | simp only [List.nil_append] at S | simp only [List.append_nil] at S)
  clear T
  obtain ⟨aP2, cP2, aL2, cL2, aS2, cS2, rfl, _, _⟩ := S.cfg 1 rfl
  have hfw : fewB c = true ∧ cfgE c = 0 := by unfold madeB at hm; rw [Bool.and_eq_true, decide_eq_true_eq] at hm; exact hm
  have HC := Lib.hid hfw.2
  clear hm hfw
  cases htm : timelyB l with
  | false =>
    rw [htm] at HTm
    clear htm
    go_wp2_with first | ((with_reducible apply wps_alloca (E := 37) S); (case hz => exact Tryd.zeroValue37); clear S; intro b6 wz S) | ((with_reducible apply wps_storea (T := 37) S 0 (vs := [.slice aP2 c.programs.length cP2, .slice aL2 c.lps.length cL2, .slice aS2 c.starts.length cS2, .int .i64 c.fin, .int .i64 c.fuel, .int .i64 c.fan]) (m := 6)); (case hx | hy | hi | hm | h1 => rfl); (case hn => exact Nat.le_of_ble_eq_true rfl); (case hT => decide +kernel); clear S; intro wz S; simp only [List.set_cons_zero, List.set_cons_succ, setAll, List.setIfInBounds_toArray] at S) | ((with_reducible apply wps_load S 3); (case hx | hi | hu => rfl); (case hT => decide +kernel)) | (go_at_call 10; refine Calls.mono (HTm.out _ _ (S.get (i := 6) rfl).choose_spec) ?_; rintro e wz ⟨rfl, hE⟩; replace S := S.ext (Keep.of_below hE); clear hE) | (go_at_call 11; refine Calls.mono (awake8_calls _ _ (S.get (i := 7) rfl).choose_spec) ?_; rintro e wz ⟨rfl, hE⟩; replace S := S.ext (Keep.of_below hE); clear hE)
    go_ret
    exact ⟨rfl, S.below⟩
  | true =>
  rw [htm] at HTm
  have htl : (∀ x ∈ l, 0 ≤ x.key.at_ ∧ x.key.at_ ≤ 1073741824) ∧ l.length ≤ 20 := by unfold timelyB at htm; rw [Bool.and_eq_true, decide_eq_true_eq, decide_eq_true_eq] at htm; exact htm
  clear htm
  obtain ⟨hta, htn⟩ := htl
  have Hta := Lib.hid hta
  have Htn := Lib.hid htn
  clear hta
  go_upto_region 4 with first | ((with_reducible apply wps_alloca (E := 37) S); (case hz => exact Tryd.zeroValue37); clear S; intro b6 wz S) | ((with_reducible apply wps_storea (T := 37) S 0 (vs := [.slice aP2 c.programs.length cP2, .slice aL2 c.lps.length cL2, .slice aS2 c.starts.length cS2, .int .i64 c.fin, .int .i64 c.fuel, .int .i64 c.fan]) (m := 6)); (case hx | hy | hi | hm | h1 => rfl); (case hn => exact Nat.le_of_ble_eq_true rfl); (case hT => decide +kernel); clear S; intro wz S; simp only [List.set_cons_zero, List.set_cons_succ, setAll, List.setIfInBounds_toArray] at S) | ((with_reducible apply wps_load S 3); (case hx | hi | hu => rfl); (case hT => decide +kernel)) | (go_at_call 10; refine Calls.mono (HTm.out _ _ (S.get (i := 6) rfl).choose_spec) ?_; rintro e wz ⟨rfl, hE⟩; replace S := S.ext (Keep.of_below hE); clear hE)
  clear HTm
  replace S := S.pick [0, 1, 2, 3, 6, 7] rfl
  repeat (first | simp only at S | simp only [pick] at S | simp only [nth] at S | simp only [List.set_cons_succ] at S | simp only [List.set_cons_zero] at S | simp only [List.setIfInBounds_toArray] at S | simp only [setAll] at S | simp only [List.cons_append] at S | simp only [List.nil_append] at S | simp only [List.append_nil] at S)
  have HRW := Lib.hid fun w F h => rwrong_calls (.slice aP2 c.programs.length cP2) (.slice aS2 c.starts.length cS2) (.int .i64 c.fin) (.int .i64 c.fuel) (.int .i64 c.fan) aL2 c.lps.length cL2 lp (.slice ad l.length cp) l w F h (by omega)
  have HBR := Lib.hid fun w F F2 F3 h h2 h3 => brun_calls R vs3 hs3 c lp s (.slice ad l.length cp) l w F F2 F3 h h2 h3 (by omega) HC.out (fun _ => atE_mem Hta.out (by decide))
  have HBW := Lib.hid fun w F F2 h h2 => bwrong_calls R vs3 hs3 c lp (.slice ad l.length cp) l w F F2 h h2 (by omega)
  unfold BRunPost at HBR
  by_cases h0 : wrongE c.lps.length lp l = 0
  case neg =>
    obtain ⟨e, he⟩ : ∃ e, wrongE c.lps.length lp l = e := ⟨_, rfl⟩
    rw [he] at h0 HRW HBR HBW
    have k1 : (e != 0) = true := by simpa using h0
    have k2 : (e != e) = false := by simp
    have H0 := Lib.hid h0
    clear h0
    go_wp2_with first | ((with_reducible apply wps_loada (T := 37) (k := 6) S 0); (case hx | hi => rfl); (case hk => exact Nat.le_of_ble_eq_true rfl); (case hT => decide +kernel)) | ((with_reducible apply wps_load S 3); (case hx | hi | hu => rfl); (case hT => decide +kernel)) | ((with_reducible apply wps_loada (T := 28) (k := 4) S 3); (case hx | hi => rfl); (case hk => exact Nat.le_of_ble_eq_true rfl); (case hT => decide +kernel)) | (go_at_call 12; refine Calls.mono (HRW.out _ _ (S.get (i := 4) rfl).choose_spec) ?_; rintro e wz ⟨rfl, hE⟩; replace S := S.ext (Keep.of_below hE); clear hE)
    refine Calls.mono (HBR.out _ _ _ _ (S.get (i := 1) rfl).choose_spec (S.get (i := 4) rfl).choose_spec (S.get (i := 5) rfl).choose_spec) ?_
    clear HBR
    rintro r wz (⟨_, rfl, hE⟩ | ⟨hq, _⟩)
    case inr => exact absurd hq H0.out
    replace S := S.ext (Keep.of_below hE)
    clear hE
    go_wp2_with first | ((with_reducible apply wps_alloca (E := 28) S); (case hz => exact Tryd.zeroValue28); clear S; intro b8 wz S) | ((with_reducible apply wps_storea (T := 28) S 0 (vs := [.int .i64 0, .int .i64 0, .int .i64 0, .int .i64 0]) (m := 4)); (case hx | hy | hi | hm | h1 => rfl); (case hn => exact Nat.le_of_ble_eq_true rfl); (case hT => decide +kernel); clear S; intro wz S; simp only [List.set_cons_zero, List.set_cons_succ, setAll, List.setIfInBounds_toArray] at S) | ((with_reducible apply wps_load S 4); (case hx | hi | hu => rfl); (case hT => decide +kernel)) | (go_at_call 14; refine Calls.mono (HBW.out _ _ _ (S.get (i := 2) rfl).choose_spec (S.get (i := 5) rfl).choose_spec) ?_; rintro e wz ⟨rfl, hE⟩; replace S := S.ext (Keep.of_below hE); clear hE) | ((with_reducible apply wps_loada (T := 28) (k := 4) S 0); (case hx | hi => rfl); (case hk => exact Nat.le_of_ble_eq_true rfl); (case hT => decide +kernel)) | ((with_reducible apply wpList_eql_agg (t := 28) (ks := [.int .i64, .int .i64, .int .i64, .int .i64]) (b := true)); (case hx | hy => rfl); (case hl | ha | hg => kernel_rfl); (case hfx | hfy => rfl); (case hb => exact rfl)) | (go_at_call 11; refine Calls.mono (awake8_calls _ _ (S.get (i := 6) rfl).choose_spec) ?_; rintro e wz ⟨rfl, hE⟩; replace S := S.ext (Keep.of_below hE); clear hE)
    go_ret
    exact ⟨rfl, S.below⟩
  case pos =>
    have HRR := Lib.hid fun w F F2 h h2 => rbrun_calls [.slice aP2 c.programs.length cP2, .slice aL2 c.lps.length cL2, .slice aS2 c.starts.length cS2, .int .i64 c.fin, .int .i64 c.fuel, .int .i64 c.fan] hs2 c lp s (.slice ad l.length cp) l w F F2 h h2 (by omega) HC.out h0 (atE_mem Hta.out (by decide))
    have hbn := batchC_len (cfg_isfine HC.out) lp s l
    have HQ := Lib.hid (evsPost (l := (batchC c lp s l).2) hbn (by omega))
    rw [h0] at HRW HBR HBW
    clear h0 hbn
    generalize batchC c lp s l = b at *
    have HEQ : Hid (ceqs [.int .i64 b.1.n0, .int .i64 b.1.n1, .int .i64 b.1.n2, .int .i64 b.1.n3] [.int .i64 b.1.n0, .int .i64 b.1.n1, .int .i64 b.1.n2, .int .i64 b.1.n3] = true) := by show _ = _; simp [ceqs, ceq]
    go_wp2_with first | ((with_reducible apply wps_loada (T := 37) (k := 6) S 0); (case hx | hi => rfl); (case hk => exact Nat.le_of_ble_eq_true rfl); (case hT => decide +kernel)) | ((with_reducible apply wps_load S 3); (case hx | hi | hu => rfl); (case hT => decide +kernel)) | ((with_reducible apply wps_loada (T := 28) (k := 4) S 3); (case hx | hi => rfl); (case hk => exact Nat.le_of_ble_eq_true rfl); (case hT => decide +kernel)) | (go_at_call 12; refine Calls.mono (HRW.out _ _ (S.get (i := 4) rfl).choose_spec) ?_; rintro e wz ⟨rfl, hE⟩; replace S := S.ext (Keep.of_below hE); clear hE)
    refine Calls.mono (HBR.out _ _ _ _ (S.get (i := 1) rfl).choose_spec (S.get (i := 4) rfl).choose_spec (S.get (i := 5) rfl).choose_spec) ?_
    clear HBR
    rintro r wz (⟨hq, _⟩ | ⟨_, v2, rfl, T⟩)
    case inl => exact absurd rfl hq
    obtain ⟨ad2, cp2, rfl, _⟩ := (T.ownsl ecells 0 rfl).elim fun _ h => h.form
    replace S := S.join T rfl
    clear T
    simp only [List.cons_append, List.nil_append] at S
    go_wp2_with first | ((with_reducible apply wps_alloca (E := 28) S); (case hz => exact Tryd.zeroValue28); clear S; intro b8 wz S) | ((with_reducible apply wps_storea (T := 28) S 0 (vs := [.int .i64 b.1.n0, .int .i64 b.1.n1, .int .i64 b.1.n2, .int .i64 b.1.n3]) (m := 4)); (case hx | hy | hi | hm | h1 => rfl); (case hn => exact Nat.le_of_ble_eq_true rfl); (case hT => decide +kernel); clear S; intro wz S; simp only [List.set_cons_zero, List.set_cons_succ, setAll, List.setIfInBounds_toArray] at S) | ((with_reducible apply wps_load S 5); (case hx | hi | hu => rfl); (case hT => decide +kernel)) | (go_at_call 14; refine Calls.mono (HBW.out _ _ _ (S.get (i := 3) rfl).choose_spec (S.get (i := 6) rfl).choose_spec) ?_; rintro e wz ⟨rfl, hE⟩; replace S := S.ext (Keep.of_below hE); clear hE) | ((with_reducible apply wps_loada (T := 37) (k := 6) S 2); (case hx | hi => rfl); (case hk => exact Nat.le_of_ble_eq_true rfl); (case hT => decide +kernel)) | ((with_reducible apply wps_loada (T := 28) (k := 4) S 5); (case hx | hi => rfl); (case hk => exact Nat.le_of_ble_eq_true rfl); (case hT => decide +kernel))
    refine Calls.mono (HRR.out _ _ _ (S.get (i := 4) rfl).choose_spec (S.get (i := 6) rfl).choose_spec) ?_
    clear HRR
    rintro r wz ⟨v2, rfl, T⟩
    obtain ⟨ad3, cp3, rfl, _⟩ := (T.ownsl ecells 0 rfl).elim fun _ h => h.form
    replace S := S.join T rfl
    clear T
    simp only [List.cons_append, List.nil_append] at S
    go_wp2_with first | ((with_reducible apply wps_alloca (E := 28) S); (case hz => exact Tryd.zeroValue28); clear S; intro b11 wz S) | ((with_reducible apply wps_storea (T := 28) S 0 (vs := [.int .i64 b.1.n0, .int .i64 b.1.n1, .int .i64 b.1.n2, .int .i64 b.1.n3]) (m := 4)); (case hx | hy | hi | hm | h1 => rfl); (case hn => exact Nat.le_of_ble_eq_true rfl); (case hT => decide +kernel); clear S; intro wz S; simp only [List.set_cons_zero, List.set_cons_succ, setAll, List.setIfInBounds_toArray] at S) | ((with_reducible apply wps_loada (T := 28) (k := 4) S 2); (case hx | hi => rfl); (case hk => exact Nat.le_of_ble_eq_true rfl); (case hT => decide +kernel)) | ((with_reducible apply wps_loada (T := 28) (k := 4) S 0); (case hx | hi => rfl); (case hk => exact Nat.le_of_ble_eq_true rfl); (case hT => decide +kernel)) | ((with_reducible apply wpList_eql_agg (t := 28) (ks := [.int .i64, .int .i64, .int .i64, .int .i64]) (b := _)); (case hx | hy => rfl); (case hl | ha | hg => kernel_rfl); (case hfx | hfy => rfl); (case hb => exact HEQ.out)) | (go_at_call 16; refine Calls.mono (HQ.out _ _ _ _ _ (own_sl (sh := true) ecells (S.get (i := 3) rfl).choose_spec) (own_sl (sh := true) ecells (S.get (i := 1) rfl).choose_spec)) ?_; rintro e wz ⟨rfl, hE⟩; replace S := S.ext (Keep.of_below hE); clear hE) | (go_at_call 11; refine Calls.mono (awake8_calls _ _ (S.get (i := 9) rfl).choose_spec) ?_; rintro e wz ⟨rfl, hE⟩; replace S := S.ext (Keep.of_below hE); clear hE)
    go_ret
    exact ⟨rfl, S.below⟩
end Go.Proofs.YtfiiaechippboaaDoor

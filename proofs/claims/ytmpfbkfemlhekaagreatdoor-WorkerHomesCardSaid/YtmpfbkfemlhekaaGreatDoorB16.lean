import Derived.Test.YtmpfbkfemlhekaaGreatDoorB03
import Derived.RangeFuncNested
import Derived.RangeFuncBound
import Derived.RangeFuncCalls
import Derived.RangeFuncLeaves
import Derived.OrdersIn
import Derived.OwnWalkIn
import Derived.TacticsInMore
import Derived.LoopNIn
import Derived.LoopIn
import Derived.Test.YtmpfbkfemlhekaaGreatDoorB04
import Derived.RangeFuncSeq
import Derived.Test.YtmpfbkfemlhekaaGreatDoorB15
import Derived.Test.YtmpfbkfemlhekaaGreatDoorB08
import Derived.Test.YtmpfbkfemlhekaaGreatDoorB09
/- Regions in a round of a range over a function (or in an iterator), walked as regions anywhere. Over any program. -/
namespace Go.Proofs.YtmpfbkfemlhekaaGreatDoor.Mem
open Go Go.RowKit Reg

def Wide (F : Fence) : Prop := F = Fence.wide ∨ ∃ r, F = Fence.wide.inRound r
theorem Wide.fn {F : Fence} (h : Wide F) (f : FuncId) : F.fn f := by rcases h with rfl | ⟨r, rfl⟩ <;> exact trivial
theorem Wide.depth {F : Fence} (h : Wide F) : F.depth = none := by rcases h with rfl | ⟨r, rfl⟩ <;> rfl
theorem Wide.calls {F : Fence} {n : Nat} {P : Program} {f : FuncId} {args : Array Value} {w : World} {R : Ending → World → Prop} (hF : Wide F) (h : Calls P f args w R) : CallsIn F n P f args w R := by
  rcases hF with rfl | ⟨r, rfl⟩
  · exact callsIn_wide.2 h
  · exact CallsIn.inRound r (callsIn_wide.2 h)
theorem Wide.rows {F : Fence} {n : Nat} {P : Program} {row : String} {args : Array Value} {w : World} {R : Value → World → Prop} (hF : Wide F) (h : Rows P row args w R) : RowsIn F n P row args w R := by
  rcases hF with rfl | ⟨r, rfl⟩
  · intro c cs _
    obtain ⟨v, w', hR, hs⟩ := h c cs
    exact ⟨v, w', hR, stepsIn_wide.2 hs⟩
  · intro c cs _
    obtain ⟨v, w', hR, hs⟩ := h c cs
    exact ⟨v, w', hR, stepsIn_wide.2 hs⟩
def Only (K : Act → World → Prop) : Exit → Act → World → Prop
  | .normal, a, w => K a w
  | _, _, _ => False
theorem only_lets {K : Act → World → Prop} : ¬ LetsOut (Only K) := fun ⟨_, _, h⟩ => h
def noDefer (o : Oper) : Bool := match o.op with | .defer _ => false | _ => true
section
variable {F : Fence} {n : Nat} {P : Program} {ops : Array Oper} {Q : Exit → Act → World → Prop} {md : Region.Mode} {K : Act → World → Prop}
theorem oper_in (hF : Wide F) {o : Oper} (hd : noDefer o = true) {a : Act} {w : World} {K' : Act → World → Prop} (h : o.wp P a w K' (Only K)) : o.wpIn F n P a w K' Q := by
  refine ⟨fun f _ => hF.fn f, ?_⟩
  have hs : o.semAt F.round a.eval = execOp a.eval o := Oper.semAt_eq _ _ _ (fun c e => by simp [noDefer, e] at hd)
  rw [hs]
  have hdp : ¬ (F.depth.isSome = true) := by rw [hF.depth]; simp
  unfold Oper.wp at h
  generalize (execOp a.eval o).run P w = r at *
  cases r with
  | ok x w' =>
    cases x <;> simp only [Oper.upon, Oper.uponIn] at h ⊢ <;>
      first
        | exact h
        | exact h.elim
        | exact ⟨fun e => (hdp e).elim, hF.calls (h.mono fun e w'' he => by cases e <;> first | exact he | exact he.elim | exact absurd he only_lets)⟩
        | exact ⟨fun e => (hdp e).elim, hF.rows h⟩
  | halt x w' => cases x <;> simp only [Oper.upon, Oper.uponIn] at h ⊢ <;> exact h.elim
theorem list_in (hF : Wide F) (hQ : ∀ a w, K a w → Q .normal a w) : ∀ (l : List Oper), l.all noDefer = true → ∀ (a : Act) (w : World), wpList P ops (Only K) l a w → wpListIn F n P ops Q l a w
  | [], _, a, w, h => hQ a w h
  | o :: rest, hd, a, w, h => by
    simp only [List.all_cons, Bool.and_eq_true] at hd
    unfold wpListIn
    unfold wpList at h
    split
    · rename_i hw
      rw [if_pos hw] at h
      rcases h with h | ⟨_, h⟩
      · exact Oper.wpIn_mono (fun a w => list_in hF hQ rest hd.2 a w) (oper_in hF hd.1 h)
      · exact absurd h only_lets
    · rename_i hw
      rw [if_neg hw] at h
      exact ⟨fun f _ => hF.fn f, list_in hF hQ rest hd.2 _ _ h⟩
theorem wpi_list {id : Nat} {l : List Oper} {a : Act} {w : World} (hF : Wide F) (hd : l.all noDefer = true) (h : wpList P l.toArray (Only (Q .normal)) l a w) : (Code.region id l.toArray false).wpIn F n P Q a w :=
  wpIn_region_lit (list_in hF (fun _ _ h => h) l hd a w h)
end
end Go.Proofs.YtmpfbkfemlhekaaGreatDoor.Mem
/- A range over a function, in states: the iterator's contract, and the law for the statement. Over any program. -/
namespace Go.Proofs.YtmpfbkfemlhekaaGreatDoor.Mem
open Go Go.RowKit Reg

def LoopA (l D : Nat) (r : Loop) : Asn where
  sh := false
  at_ := fun w F => w.heap[l]? = some (.loop r) ∧ w.heap[D]? = some (.deferred (some [])) ∧ l ≠ D ∧ ∀ b, F b ↔ b = l ∨ b = D
  loc := fun h hb => ⟨(hb _ ((h.2.2.2 _).2 (.inl rfl))).trans h.1, (hb _ ((h.2.2.2 _).2 (.inr rfl))).trans h.2.1, h.2.2⟩
  lt := fun h b hb => by
    rcases (h.2.2.2 b).1 hb with rfl | rfl
    · exact (Array.getElem?_eq_some_iff.1 h.1).1
    · exact (Array.getElem?_eq_some_iff.1 h.2.1).1
def DefA (D : Nat) : Asn where
  sh := false
  at_ := fun w F => w.heap[D]? = some (.deferred (some [])) ∧ ∀ b, F b ↔ b = D
  loc := fun h hb => ⟨(hb _ ((h.2 _).2 rfl)).trans h.1, h.2⟩
  lt := fun h b hb => by obtain rfl := (h.2 b).1 hb; exact (Array.getElem?_eq_some_iff.1 h.1).1
section
variable {G : Nat → Prop} {w0 w w' : World} {L L' : List Asn} {A A' : Asn} {i : Nat}
theorem St.sub (S : St G w0 w L) (f : Nat → Nat) (hi : ∀ i j, i < L'.length → j < L'.length → f i = f j → i = j) (h : ∀ i A, L'[i]? = some A → L[f i]? = some A) : St G w0 w L' := by
  obtain ⟨Fs, hf, hd⟩ := S.ex
  refine ⟨S.keep, fun i => Fs (f i), fun i A hA => hf _ A (h i A hA), fun i j A B hij hA hB => ?_⟩
  have h1 := (List.getElem?_eq_some_iff.1 hA).1
  have h2 := (List.getElem?_eq_some_iff.1 hB).1
  rcases Nat.lt_or_gt_of_ne (fun e : f i = f j => by have := hi i j h1 h2 e; omega) with hlt | hlt
  · exact hd _ _ A B hlt (h i A hA) (h j B hB)
  · rcases hd _ _ B A hlt (h j B hB) (h i A hA) with ⟨e1, e2⟩ | e
    · exact .inl ⟨e2, e1⟩
    · exact .inr fun x hx hx' => e x hx' hx
theorem St.rot (S : St G w0 w (A :: L)) : St G w0 w (L ++ [A]) := by
  refine S.sub (fun i => if i < L.length then i + 1 else 0) (fun i j h1 h2 e => ?_) (fun i B h => ?_)
  · simp only [List.length_append, List.length_cons, List.length_nil] at h1 h2
    split at e <;> split at e <;> omega
  · have hl := (List.getElem?_eq_some_iff.1 h).1
    simp only [List.length_append, List.length_cons, List.length_nil] at hl
    split
    · rename_i hlt; rw [List.getElem?_append_left hlt] at h; simpa using h
    · obtain rfl : i = L.length := by omega
      rw [List.getElem?_append_right (Nat.le_refl _)] at h; simpa using h
theorem St.unrot (S : St G w0 w (L ++ [A])) : St G w0 w (A :: L) := by
  refine S.sub (fun i => if i = 0 then L.length else i - 1) (fun i j h1 h2 e => ?_) (fun i B h => ?_)
  · simp only [List.length_cons] at h1 h2
    split at e <;> split at e <;> omega
  · have hl := (List.getElem?_eq_some_iff.1 h).1
    simp only [List.length_cons] at hl
    split
    · subst i; simpa using h
    · obtain ⟨k, rfl⟩ : ∃ k, i = k + 1 := ⟨i - 1, by omega⟩
      simp only [Nat.add_sub_cancel, List.getElem?_cons_succ] at h ⊢
      rw [List.getElem?_append_left (by omega)]; exact h
theorem keep_putObj (w : World) (l : Nat) (o : Obj) : Keep (fun b => b = l) w (w.putObj l o) :=
  ⟨rfl, rfl, rfl, by simp, fun b _ hb => World.putObj_heap_other hb, Nat.le_refl _⟩
theorem St.loopSet {l D : Nat} {r : Loop} (S : St G w0 w (L ++ [LoopA l D r])) (r' : Loop) : St G w0 (w.putObj l (.loop r')) (L ++ [LoopA l D r']) := by
  have S1 := S.unrot
  have S2 : St G w0 (w.putObj l (.loop r')) ((LoopA l D r :: L).set 0 (LoopA l D r')) := S1.step (i := 0) rfl rfl fun F h => by
    have hl := (Array.getElem?_eq_some_iff.1 h.1).1
    exact ⟨F, (keep_putObj w l _).mono (fun x _ hn e => hn ((h.2.2.2 x).2 (.inl e))), ⟨World.putObj_heap_same hl, (World.putObj_heap_other (Ne.symm h.2.2.1)).trans h.2.1, h.2.2⟩, fun _ h => .inl h⟩
  exact St.rot S2
theorem St.loopGet {l D : Nat} {r : Loop} (S : St G w0 w (L ++ [LoopA l D r])) : w.heap[l]? = some (.loop r) := by
  obtain ⟨F, h⟩ := S.unrot.get (i := 0) rfl; exact h.1
theorem St.loopNew (S : St G w0 w L) (r : Loop) : St G w0 ((w.alloc (.deferred (some []))).alloc (.loop r)) (L ++ [LoopA (w.heap.size + 1) w.heap.size r]) := by
  refine St.rot (S.grow (F := fun b => b = w.heap.size + 1 ∨ b = w.heap.size) ((keep_alloc w _).trans (keep_alloc _ _) (fun _ _ h => ⟨h, h⟩)) ⟨?_, ?_, by omega, fun _ => Iff.rfl⟩ (fun b hb => by omega))
  · have := World.alloc_heap_new (w.alloc (.deferred (some []))) (.loop r); rwa [World.size_alloc] at this
  · exact (Below.heap_alloc _ _ _ (by simp)).trans (World.alloc_heap_new w _)
theorem St.loopEnd {l D : Nat} {r : Loop} (S : St G w0 w (L ++ [LoopA l D r])) : St G w0 w (DefA D :: L) :=
  S.unrot.weak (i := 0) rfl (fun _ => rfl) fun _ h => ⟨fun b => b = D, fun b hb => (h.2.2.2 b).2 (.inr hb), h.2.1, fun _ => Iff.rfl⟩
theorem St.taken {D : Nat} (S : St G w0 w (DefA D :: L)) : w.heap[D]? = some (.deferred (some [])) ∧ St G w0 (w.putObj D (.deferred none)) L := by
  obtain ⟨F, h⟩ := S.get (i := 0) rfl
  refine ⟨h.1, ?_⟩
  have S2 : St G w0 (w.putObj D (.deferred none)) ((DefA D :: L).set 0 (pur True)) := S.step (i := 0) rfl rfl fun _ h =>
    ⟨fun _ => False, (keep_putObj w D _).mono (fun x _ hn e => hn ((h.2 x).2 e)), ⟨trivial, fun _ h => h⟩, fun _ h => h.elim⟩
  exact St.tail S2
end
def IterC (P : Program) (gf : FuncId) (lb : Array Value) (T : List Asn) {α : Type} (xs : List α) (Made : α → Array Value → List Asn → Prop) : Prop :=
  ∀ (l : Nat) (G : Nat → Prop) (w0 W : World) (Φ Ψ : Nat → List Asn → Prop) (L : List Asn),
    (∀ (j : Nat) (x : α) (args : Array Value) (N L : List Asn) (W : World), xs[j]? = some x → Made x args N → Φ j L → St G w0 W (N ++ (T ++ L)) →
      YieldAt Fence.wide 0 P l args W fun e W' => ∃ L', St G w0 W' (T ++ L') ∧ ((e = .returned (.bool true) ∧ Φ (j + 1) L') ∨ (e = .returned (.bool false) ∧ Ψ (j + 1) L'))) →
    Φ 0 L → St G w0 W (T ++ L) →
    Calls P gf (#[.func (.yield l) #[] #[]] ++ lb) W fun e W' => (∃ v, e = .returned v) ∧ ∃ L', St G w0 W' (T ++ L') ∧ (Φ xs.length L' ∨ ∃ j, j ≤ xs.length ∧ Ψ j L')
def roundQ (G : Nat → Prop) (w0 : World) (T : List Asn) (X : Asn) (Φ : List Asn → Prop) (Ψ : Code → List Asn → Prop) : Exit → Act → World → Prop
  | .normal, _, W => ∃ L, Φ L ∧ St G w0 W (T ++ (L ++ [X]))
  | .ret, _, W => ∃ L, Ψ .ret L ∧ St G w0 W (T ++ (L ++ [X]))
  | .exit id, _, W => ∃ L, Ψ (.exit id) L ∧ St G w0 W (T ++ (L ++ [X]))
  | .goto t, _, W => ∃ L, Ψ (.goto t) L ∧ St G w0 W (T ++ (L ++ [X]))
  | .panic _, _, _ => False
  | .outgrown, _, _ => False
section
variable {P : Program} {G : Nat → Prop} {w0 w : World} {L T : List Asn} {gf : FuncId} {lb : Array Value} {α : Type} {xs : List α} {Made : α → Array Value → List Asn → Prop}
  {g : Operand} {ps : Array Tmp} {assign body : Code} {Q : Exit → Act → World → Prop} {a : Act}
theorem wps_range (hI : IterC P gf lb T xs Made) (S : St G w0 w (T ++ L)) (hg : a.eval g = .func (.func gf) #[] lb) (eg : ∀ args w, (callFunc gf args).run P w = .ok (.enter gf args) w)
    (Φ : Nat → List Asn → Prop) (Ψ : Code → Nat → List Asn → Prop) (h0 : Φ 0 L) (hps : ∀ x args N, Made x args N → args.size = ps.size)
    (hround : ∀ (l D : Nat) (r : Loop) (j : Nat) (x : α) (args : Array Value) (N L : List Asn) (W : World), xs[j]? = some x → Made x args N → Φ j L → St G w0 W (N ++ (T ++ (L ++ [LoopA l D r]))) →
      assign.wpIn (Fence.wide.inRound l) 0 P (Exit.then (fun a₁ W₁ => ∃ M, St G w0 W₁ (M ++ [LoopA l D r]) ∧
        ∀ (r' : Loop) (W₂ : World), St G w0 W₂ (M ++ [LoopA l D r']) → body.wpIn (Fence.wide.inRound l) 0 P (roundQ G w0 T (LoopA l D r') (Φ (j + 1)) (fun c => Ψ c (j + 1))) a₁ W₂) (fun _ _ _ => False))
        { tmps := (ps.zip args).foldl (fun t (p, v) => t.setIfInBounds p v) a.tmps, defers := [] } W)
    (hdone : ∀ (D : Nat) (W : World) (L : List Asn), Φ xs.length L → St G w0 W (DefA D :: (T ++ L)) → Q .normal { a with defers := { target := .collected D, args := #[] } :: a.defers } W)
    (hstop : ∀ (D : Nat) (c : Code) (j : Nat) (W : World) (L : List Asn), j ≤ xs.length → Ψ c j L → St G w0 W (DefA D :: (T ++ L)) → c.wp P Q { a with defers := { target := .collected D, args := #[] } :: a.defers } W) :
    (Code.rangeFunc g ps assign body).wp P Q a w := by
  refine (wpIn_wide (n := 0)).1 (wpIn_rangeFunc fun fn _ => ?_)
  obtain ⟨rec, hrec⟩ : ∃ rec : LoopState → Option Code → Loop, rec = fun st pe => { state := st, pending := pe, fn, tmps := a.tmps, params := ps, assign, body, defers := w.heap.size } := ⟨_, rfl⟩
  have S1 := S.loopNew (rec .ready none)
  obtain ⟨l, D, hl, hD⟩ : ∃ l D, l = w.heap.size + 1 ∧ D = w.heap.size := ⟨_, _, rfl, rfl⟩
  obtain ⟨W1, hW1⟩ : ∃ W1, (w.alloc (.deferred (some []))).alloc (.loop (rec .ready none)) = W1 := ⟨_, rfl⟩
  rw [hW1, ← hl, ← hD] at S1
  refine ⟨l, [{ target := .collected D, args := #[] }], W1, { target := .fn (.func gf) lb, args := #[.func (.yield l) #[] #[]] }, W1, gf, #[.func (.yield l) #[] #[]] ++ lb, W1, ?_, ?_, fun _ _ => trivial, ?_, fun e => by simp [Fence.wide] at e, ?_⟩
  · rw [← hW1, hrec, hl, hD]; exact run_enterLoop_outer _ _ _ _ _
  · simp only [resolve, hg]; simp [go_sem]
  · simp [invoke, go_sem, eg]
  refine callsIn_wide.2 ((hI l G w0 W1 (fun j M => ∃ L, M = L ++ [LoopA l D (rec .ready none)] ∧ Φ j L) (fun j M => ∃ c L, M = L ++ [LoopA l D (rec .done (some c))] ∧ Ψ c j L) (L ++ [LoopA l D (rec .ready none)]) ?_ ⟨L, rfl, h0⟩ (by rw [← List.append_assoc]; exact S1)).mono ?_)
  · rintro j x args N _ W hx hm ⟨L, rfl, hp⟩ S
    have e1 : ∀ r, N ++ (T ++ (L ++ [LoopA l D r])) = (N ++ (T ++ L)) ++ [LoopA l D r] := fun r => by simp
    have hy := run_yield (P := P) (args := args) (St.loopGet (by rw [← e1]; exact S)) (by rw [hrec]; exact hps x args N hm)
    refine ⟨_, _, _, _, hy, roundIn_of_wpIn trivial ?_⟩
    rw [hrec]
    refine wpIn_mono (hround l D _ j x args N L W hx hm hp S) ?_
    rintro e a1 W2 hq
    cases e with
    | normal =>
      obtain ⟨M, S2, hb⟩ := hq
      refine ⟨_, run_beginRound S2.loopGet (by rw [hrec]), ?_⟩
      have S3 := S2.loopSet { rec .ready none with state := .busy }
      refine wpIn_mono (hb _ _ S3) ?_
      have e2 : ∀ (L : List Asn) r, T ++ (L ++ [LoopA l D r]) = (T ++ L) ++ [LoopA l D r] := fun L r => by simp
      have fin : ∀ (jump : Option Code) (L : List Asn) (W3 : World), St G w0 W3 (T ++ (L ++ [LoopA l D { rec .ready none with state := .busy }])) →
          (Instr.endRound l jump).run P W3 = .ok (.bool jump.isNone) (W3.putObj l (.loop (rec (if jump.isNone then .ready else .done) jump))) ∧ St G w0 (W3.putObj l (.loop (rec (if jump.isNone then .ready else .done) jump))) (T ++ (L ++ [LoopA l D (rec (if jump.isNone then .ready else .done) jump)])) := by
        intro jump L W3 S4
        rw [e2] at S4
        refine ⟨?_, by rw [e2]; exact S4.loopSet _⟩
        have := run_endRound (P := P) jump S4.loopGet
        rw [hrec] at this ⊢
        exact this
      rintro e a3 W3 hp3
      cases e with
      | normal =>
        obtain ⟨L3, hp3, S4⟩ := hp3
        obtain ⟨hr, S5⟩ := fin none L3 W3 S4
        exact ⟨_, _, hr, _, S5, .inl ⟨rfl, L3, by rw [hrec]; rfl, hp3⟩⟩
      | ret =>
        obtain ⟨L3, hp3, S4⟩ := hp3
        obtain ⟨hr, S5⟩ := fin (some .ret) L3 W3 S4
        exact ⟨_, _, hr, _, S5, .inr ⟨rfl, .ret, L3, by rw [hrec]; rfl, hp3⟩⟩
      | exit id =>
        obtain ⟨L3, hp3, S4⟩ := hp3
        obtain ⟨hr, S5⟩ := fin (some (.exit id)) L3 W3 S4
        exact ⟨_, _, hr, _, S5, .inr ⟨rfl, .exit id, L3, by rw [hrec]; rfl, hp3⟩⟩
      | goto t =>
        obtain ⟨L3, hp3, S4⟩ := hp3
        obtain ⟨hr, S5⟩ := fin (some (.goto t)) L3 W3 S4
        exact ⟨_, _, hr, _, S5, .inr ⟨rfl, .goto t, L3, by rw [hrec]; rfl, hp3⟩⟩
      | panic ch => exact hp3.elim
      | outgrown => exact hp3.elim
    | exit id => exact hq.elim
    | goto t => exact hq.elim
    | ret => exact hq.elim
    | panic ch => exact hq.elim
    | outgrown => exact hq.elim
  · rintro e W2 ⟨⟨v, rfl⟩, M, S2, ⟨L2, rfl, hp⟩ | ⟨j, hj, c, L2, rfl, hp⟩⟩
    · rw [← List.append_assoc] at S2
      exact ⟨none, _, by have := run_endLoop (P := P) S2.loopGet (by rw [hrec]; simp); rw [hrec] at this; exact this, hdone D _ L2 hp (S2.loopSet _).loopEnd⟩
    · rw [← List.append_assoc] at S2
      exact ⟨some c, _, by have := run_endLoop (P := P) S2.loopGet (by rw [hrec]; simp); rw [hrec] at this; exact this, (wpIn_wide (n := 0)).2 (hstop D c j _ L2 hj hp (S2.loopSet _).loopEnd)⟩
theorem calls_marks {f : FuncId} {fn : Func} {c : Code} {args : Array Value} {w : World} {R : Ending → World → Prop} (hf : P.funcs[f]? = some fn) (hb : fn.body = some c)
    (h : c.wp P (bodyPostM Fence.wide 0 P fn R) { tmps := args ++ Array.replicate (fn.ntmps - args.size) undef, defers := [] } w) : Calls P f args w R :=
  callsIn_wide.1 (callsIn_of_wp_marks (n := 0) hf hb trivial ((wpIn_wide (n := 0)).2 h))
end
end Go.Proofs.YtmpfbkfemlhekaaGreatDoor.Mem
/- One process as a thing: its queue, what it sent, its saves; the walk of New. -/
namespace Go.Proofs.YtmpfbkfemlhekaaGreatDoor
open Go Go.RowKit Reg Mem

theorem take_snocL {α : Type} {l : List α} {j : Nat} {x : α} (h : l[j]? = some x) : l.take (j + 1) = l.take j ++ [x] := by
  rw [List.take_add_one, h]; rfl
theorem sortT_stepL {l : List Event} {i : Nat} {x : Event} (h : l[i]? = some x) : sortT (l.take (i + 1)) = insTot x (sortT (l.take i)) := by
  unfold sortT
  rw [take_snocL h, List.foldl_append]; rfl
structure LpE where
  id : Int
  every : Int
  lazy : Bool
  evs : List Event
  ans : List Event
  recs : List (Event × Bool)
  svs : List (Int × State)
  now : Int
  st : State
  since : Int
  freed : Int
  steps : Int
  coasted : Int
def svcell (x : Int × State) : List Value := [.int .i64 x.1, .int .i64 x.2.n0, .int .i64 x.2.n1, .int .i64 x.2.n2, .int .i64 x.2.n3]
theorem svcells : ∀ x, (svcell x).length = 5 := fun _ => rfl
def rccell (x : Event × Bool) : List Value := x.1.cells ++ [.bool x.2]
theorem rccells : ∀ x, (rccell x).length = 8 := fun _ => rfl
def sentA (T : Nat) (l : List (Event × Bool)) : Asn := exs false fun v : Value => sep false (Blk false T #[v] 232) (Mem.Own 250 rccell 8 v l)
def rowA (Y : Nat) (l : List (Int × State)) : Asn := exs false fun v : Value => sep false (Blk false Y #[v] 239) (Mem.Own 234 svcell 5 v l)
theorem sent_close {G : Nat → Prop} {w0 w : World} {L : List Asn} {T : Nat} {l : List (Event × Bool)} {v : Value} (S : St G w0 w (Mem.Own 250 rccell 8 v l :: Blk false T #[v] 232 :: L)) : St G w0 w (sentA T l :: L) :=
  (S.swap2.close_sep rfl rfl).close_exs (A := fun v : Value => sep false (Blk false T #[v] 232) (Mem.Own 250 rccell 8 v l)) v rfl
theorem row_close {G : Nat → Prop} {w0 w : World} {L : List Asn} {T : Nat} {l : List (Int × State)} {v : Value} (S : St G w0 w (Mem.Own 234 svcell 5 v l :: Blk false T #[v] 239 :: L)) : St G w0 w (rowA T l :: L) :=
  (S.swap2.close_sep rfl rfl).close_exs (A := fun v : Value => sep false (Blk false T #[v] 239) (Mem.Own 234 svcell 5 v l)) v rfl
def lpB (X Q T Y R : Nat) (p : LpE) : Asn := Blk false X #[.pointer (some ⟨Q, 0, none⟩), .iface 114 (.agg #[.pointer (some ⟨R, 0, none⟩)]), .int .i64 p.id, .int .i64 p.every, .bool p.lazy, .pointer (some ⟨T, 0, none⟩), .pointer (some ⟨Y, 0, none⟩), .int .i64 p.now, .int .i64 p.st.n0, .int .i64 p.st.n1, .int .i64 p.st.n2, .int .i64 p.st.n3, .int .i64 p.since, .int .i64 p.freed, .int .i64 p.steps, .int .i64 p.coasted] 175
def lpA (X R : Nat) (p : LpE) : Asn := exs false fun q : Nat × Nat × Nat =>
  sep false (lpB X q.1 q.2.1 q.2.2 R p) (sep false (queueA q.1 p.evs p.ans) (sep false (sentA q.2.1 p.recs) (rowA q.2.2 p.svs)))
theorem lp_close {G : Nat → Prop} {w0 w : World} {L : List Asn} {X R Q T Y : Nat} {p : LpE} (S : St G w0 w (sentA T p.recs :: rowA Y p.svs :: queueA Q p.evs p.ans :: lpB X Q T Y R p :: L)) : St G w0 w (lpA X R p :: L) :=
  (((S.close_sep rfl rfl).swap2.close_sep rfl rfl).swap2.close_sep rfl rfl).close_exs (A := fun q : Nat × Nat × Nat =>
  sep false (lpB X q.1 q.2.1 q.2.2 R p) (sep false (queueA q.1 p.evs p.ans) (sep false (sentA q.2.1 p.recs) (rowA q.2.2 p.svs)))) (Q, T, Y) rfl
set_option maxRecDepth 100000 in
theorem onew_calls (w : World) : Calls Tryz.prog 72 #[] w fun e w' => ∃ X, e = .returned (.pointer (some ⟨X, 0, none⟩)) ∧ St (fun _ => False) w w' [sentA X []] := by
  have S := St.init (fun _ => False) w
  go_enter Tryz.func72, Tryz.ntmps72
  go_wp2_with first | ((with_reducible apply wps_boxa (E := 232) S); (case hx => rfl); clear S; intro bX wz S)
  replace S := S.nil 250 rccell 8
  go_ret
  exact ⟨_, rfl, sent_close S⟩
set_option maxRecDepth 100000 in
theorem rownew_calls (s : State) (w : World) : Calls Tryz.prog 73 #[.agg #[.int .i64 s.n0, .int .i64 s.n1, .int .i64 s.n2, .int .i64 s.n3]] w fun e w' => ∃ X, e = .returned (.pointer (some ⟨X, 0, none⟩)) ∧ St (fun _ => False) w w' [rowA X [(-1, s)]] := by
  have S := St.init (fun _ => False) w
  go_enter Tryz.func73, Tryz.ntmps73
  go_wp2_with first | ((with_reducible apply wps_boxa (E := 70) S); (case hx => rfl); clear S; intro be wz S) | ((with_reducible apply wps_loada (T := 70) (k := 4) S 0); (case hx | hi => rfl); (case hk => exact Nat.le_of_ble_eq_true rfl); (case hT => decide +kernel)) | ((with_reducible apply wps_buildSlice (T := 235) (E := 234) (cs := #[.int .i64 (-1), .int .i64 s.n0, .int .i64 s.n1, .int .i64 s.n2, .int .i64 s.n3]) S); (case hr => intro w; kernel_rfl); clear S; intro bs wz S) | ((with_reducible apply wps_boxa (E := 239) S); (case hx => rfl); clear S; intro bX wz S)
  have S2 := S.unraw (n := 1) (c := 1) (xs := [(-1, s)]) svcells 1 rfl rfl rfl (Nat.le_refl _) (by simp [maxLen]) rfl
  simp only [List.set_cons_zero, List.set_cons_succ] at S2
  go_ret
  exact ⟨_, rfl, row_close (S2.pick [1, 0] rfl)⟩
def newLp (id every : Int) (lazy : Bool) (s : State) (l : List Event) : LpE := ⟨id, every, lazy, sortT l, [], [], [(-1, s)], -1, s, 0, 0, 0, 0⟩
def LpNewPost (R : Nat) (p : LpE) (w : World) (e : Ending) (w' : World) : Prop :=
  ∃ X, e = .returned (.tuple #[.pointer (some ⟨X, 0, none⟩), .int .i64 0]) ∧ St (fun _ => False) w w' [lpA X R p]
def LpNewRel (X Q T Y R bf : Nat) (p : LpE) (s : State) (l : List Event) (v : Value) (w : World) (i : Value) (wr : World) : Prop :=
  ∃ j : Nat, j ≤ l.length ∧ i = .int .i64 j ∧ St (fun _ => False) w wr [queueA Q (sortT (l.take j)) [], sentA T [], rowA Y [(-1, s)], lpB X Q T Y R p, Blk false bf #[.int .i64 s.n0, .int .i64 s.n1, .int .i64 s.n2, .int .i64 s.n3] 70, Sl true Event.cells 7 v l]
set_option maxRecDepth 100000 in
set_option maxHeartbeats 8000000 in
theorem lpnew_calls (R : Nat) (id every : Int) (lazy : Bool) (s : State) (v : Value) (l : List Event) (w : World) (F : Nat → Prop) (h : (Sl true Event.cells 7 v l).at_ w F) (hn : l.length ≤ 65536) (h1 : 0 ≤ id) (h2 : id < 32) (h3 : 1 ≤ every) (hl : ∀ x ∈ l, x.dst = id ∧ 0 ≤ x.key.at_ ∧ x.key.at_ ≤ 1073741824) :
    Calls Tryz.prog 37 #[.iface 114 (.agg #[.pointer (some ⟨R, 0, none⟩)]), .int .i64 id, .agg #[.int .i64 s.n0, .int .i64 s.n1, .int .i64 s.n2, .int .i64 s.n3], .int .i64 every, .bool lazy, v] w (LpNewPost R (newLp id every lazy s l) w) := by
  have S : St (fun _ => False) w w [Sl true Event.cells 7 v l] := (St.init _ w).share (A := Sl true Event.cells 7 v l) rfl rfl h
  clear h
  obtain ⟨ad, c, rfl, _⟩ := (S.sl 0 rfl).elim fun _ h => h.form
  have HL := Lib.hid hl
  have f1 : decide (id < 0) = false := decide_eq_false (by omega)
  have f2 : decide (id ≥ 32) = false := decide_eq_false (by omega)
  have f3 : decide (every < 1) = false := decide_eq_false (by omega)
  clear hl h1 h2 h3
  go_enter Tryz.func37, Tryz.ntmps37
  go_upto_region 5 with first | ((with_reducible apply wps_boxa (E := 70) S); (case hx => rfl); clear S; intro bf wz S)
  (refine wp_region_w (soft := [1, 2, 3, 4, 6, 8]) S ?hm ?hB ?_); (case hm => kernel_rfl); (case hB => decide +kernel); clear S
  iterate 6
    (with_reducible apply softs_cons)
    (case hw =>
      (with_reducible apply soft_of); (case hi => rfl)
      intro T wz S
      simp only [List.cons_append, List.nil_append] at S
      go_wp2_with first | ((with_reducible apply wps_loada (T := 70) (k := 4) S 0); (case hx | hi => rfl); (case hk => exact Nat.le_of_ble_eq_true rfl); (case hT => decide +kernel)) | ((with_reducible refine tot_done ?ht ?_); (case ht => kernel_rfl))
      exact ⟨rfl, S⟩)
    (case hs => exact ⟨_, rfl, by kernel_rfl⟩)
  refine softs_nil ?_
  (with_reducible apply W_hard1 (i := 0)); (case hn => rfl); (case hr => decide +kernel)
  intro wz S
  (with_reducible apply hard_of); (case hi => rfl)
  simp only [List.cons_append, List.nil_append] at S
  go_wp2_with first | (go_at_call 71; refine Calls.mono (qnew_calls _) ?_; rintro rr wz ⟨Q, rfl, T⟩; replace S := S.join T rfl; clear T; simp only [List.cons_append, List.nil_append] at S) | ((with_reducible refine tot_done ?ht ?_); (case ht => kernel_rfl))
  refine ⟨_, S.pick [1, 2, 0] rfl, ?_⟩
  clear S
  (with_reducible apply W_hard1 (i := 5)); (case hn => rfl); (case hr => decide +kernel)
  intro wz S
  (with_reducible apply hard_of); (case hi => rfl)
  simp only [List.cons_append, List.nil_append] at S
  go_wp2_with first | (go_at_call 72; refine Calls.mono (onew_calls _) ?_; rintro rr wz ⟨T0, rfl, T⟩; replace S := S.join T rfl; clear T; simp only [List.cons_append, List.nil_append] at S) | ((with_reducible refine tot_done ?ht ?_); (case ht => kernel_rfl))
  refine ⟨_, S.pick [1, 2, 3, 0] rfl, ?_⟩
  clear S
  (with_reducible apply W_hard1 (i := 7)); (case hn => rfl); (case hr => decide +kernel)
  intro wz S
  (with_reducible apply hard_of); (case hi => rfl)
  simp only [List.cons_append, List.nil_append] at S
  go_wp2_with first | (go_at_call 73; refine Calls.mono (rownew_calls s _) ?_; rintro rr wz ⟨Y, rfl, T⟩; replace S := S.join T rfl; clear T; simp only [List.cons_append, List.nil_append] at S) | ((with_reducible refine tot_done ?ht ?_); (case ht => kernel_rfl))
  refine ⟨_, S.pick [1, 2, 3, 4, 0] rfl, ?_⟩
  clear S
  (refine W_mid (f := 2) (soft := [9]) rfl ?hB ?_); (case hB => decide +kernel)
  iterate 1
    (with_reducible apply softs_cons)
    (case hw =>
      (with_reducible apply soft_of); (case hi => rfl)
      intro T wz S
      simp only [List.cons_append, List.nil_append] at S
      go_wp2_with first | ((with_reducible refine tot_done ?ht ?_); (case ht => kernel_rfl))
      exact ⟨rfl, S⟩)
    (case hs => exact ⟨_, rfl, by kernel_rfl⟩)
  refine softs_nil ?_
  (with_reducible apply W_hard1 (i := 10)); (case hn => rfl); (case hr => decide +kernel)
  intro wz S
  (with_reducible apply hard_of); (case hi => rfl)
  simp only [List.cons_append, List.nil_append] at S
  go_wp2_with first | ((with_reducible apply wps_boxa (E := 175) S); (case hx => rfl); clear S; intro bX wz S) | ((with_reducible refine tot_done ?ht ?_); (case ht => kernel_rfl))
  refine ⟨_, S.pick [1, 2, 3, 4, 5, 0] rfl, ?_⟩
  clear S
  (refine W_mid (f := 0) (soft := [11]) rfl ?hB ?_); (case hB => decide +kernel)
  iterate 1
    (with_reducible apply softs_cons)
    (case hw =>
      (with_reducible apply soft_of); (case hi => rfl)
      intro T wz S
      simp only [List.cons_append, List.nil_append] at S
      go_wp2_with first | ((with_reducible refine tot_done ?ht ?_); (case ht => kernel_rfl))
      exact ⟨rfl, S⟩)
    (case hs => exact ⟨_, rfl, by kernel_rfl⟩)
  refine softs_nil ?_
  (with_reducible apply W_done); (case hn => rfl); (case hr => decide +kernel)
  intro wz S
  repeat (first | simp only at S | simp only [pick] at S | simp only [nth] at S | simp only [List.set_cons_succ] at S | simp only [List.set_cons_zero] at S | simp only [List.setIfInBounds_toArray] at S | simp only [setAll] at S | simp only [List.cons_append] at S | simp only [List.nil_append] at S | simp only [List.append_nil] at S)
  all_goals
    have S2 := S.pick [2, 3, 4, 5, 0, 1] rfl
    clear S
    simp only [pick, nth] at S2
    have S := S2
    clear S2
    go_wp2_with first | ((with_reducible apply wps_loada (T := 70) (k := 4) S 0); (case hx | hi => rfl); (case hk => exact Nat.le_of_ble_eq_true rfl); (case hT => decide +kernel))
    go_loopw [44] (fun i wr => LpNewRel bX Q T0 Y R bf (newLp id every lazy s l) s l (.slice ad l.length c) w i wr) (fun i _ => l.length - (intOf i).toNat)
    case atStart => exact ⟨0, Nat.zero_le _, rfl, S⟩
    case round =>
      clear S
      obtain ⟨j, hj, rfl, S⟩ := hrel
      by_cases hlt : j < l.length
      · obtain ⟨x, hx⟩ : ∃ x, l[j]? = some x := ⟨_, List.getElem?_eq_getElem hlt⟩
        obtain ⟨R5, o5, rfl⟩ : ∃ R o, ad = some ⟨R, o, none⟩ := (S.sl 5 rfl).elim fun F h => h.head (by omega)
        have hlt2 : (j : Int) < l.length := by omega
        have hxl := HL.out x (List.mem_of_getElem? hx)
        have HS := Lib.hid (sortT_stepL hx)
        have HUP := Lib.hid (sortT_up (l.take j))
        have HLE : Hid ((sortT (l.take j)).length ≤ 65536) := Lib.hid (by rw [(sortT_perm _).length_eq, List.length_take]; omega)
        generalize sortT (l.take j) = lj at *
        have HX := Lib.hid hx
        have f4 : (x.dst == id) = true := by simp [hxl.1]
        have HP := Lib.hid fun w F S0 => qput_come Q lj x w F S0 HUP.out HLE.out hxl.2.1 hxl.2.2
        clear hx hxl
        go_wp2_with first | ((with_reducible apply wps_loada_el S 5 (hj := HX.out) (q := 0) (vs := [.int .i64 x.key.at_, .int .i64 x.key.src, .int .i64 x.key.sent, .int .i64 x.key.no, .int .i64 x.dst, .int .i64 x.kind, .int .i64 x.data]) (m := 7)); (case hx | hi => rfl); (case hn => omega); (case hm | hv => rfl); (case hT => decide +kernel)) | ((with_reducible apply wps_alloca (E := 48) S); (case hz => exact Tryz.zeroValue48); clear S; intro b16 wz S) | ((with_reducible apply wps_storea (T := 48) S 0 (vs := [.int .i64 x.key.at_, .int .i64 x.key.src, .int .i64 x.key.sent, .int .i64 x.key.no, .int .i64 x.dst, .int .i64 x.kind, .int .i64 x.data]) (m := 7)); (case hx | hy | hi | hm | h1 => rfl); (case hn => exact Nat.le_of_ble_eq_true rfl); (case hT => decide +kernel); clear S; intro wz S; simp only [List.set_cons_zero, List.set_cons_succ, setAll, List.setIfInBounds_toArray] at S) | ((with_reducible apply wps_loada (T := 48) (k := 7) S 0); (case hx | hi => rfl); (case hk => exact Nat.le_of_ble_eq_true rfl); (case hT => decide +kernel)) | ((with_reducible apply wps_load S 0); (case hx | hi | hu => rfl); (case hT => decide +kernel)) | ((with_reducible apply wps_load S 4); (case hx | hi | hu => rfl); (case hT => decide +kernel)) | (go_at_call 74; obtain ⟨Fz, hF, hBk⟩ := S.lend [1] [] [2, 3, 4, 5, 6] rfl rfl rfl; simp only [List.cons_append, List.nil_append, pick, nth] at hF hBk; (with_reducible refine Calls.mono (HP.out _ _ hF) ?_); rintro rr wz ⟨rfl, T⟩; replace S := hBk _ _ T rfl; clear hBk hF T; simp only [List.cons_append, List.nil_append] at S) | ((with_reducible refine tot_done ?ht ?_); (case ht => kernel_rfl)) | ((with_reducible apply wps_text S); (case hm => kernel_rfl); (case hB => decide +kernel); clear S; intro wz S)
        go_roundw
        case rel =>
          refine ⟨j + 1, by omega, by go_num, ?_⟩
          rw [HS.out]
          exact S.pick [0, 1, 2, 3, 4, 5] rfl
        case measure => first | (simp [intOf]; done) | (simp [intOf]; omega)
      · obtain rfl : j = l.length := by omega
        rw [List.take_length] at S
        have S2 := S.pick [1, 2, 0, 3] rfl
        simp only [pick, nth] at S2
        have S3 := lp_close (p := newLp id every lazy s l) S2
        clear S2
        go_wp2_with first | ((with_reducible apply wps_loada (T := 70) (k := 4) S 0); (case hx | hi => rfl); (case hk => exact Nat.le_of_ble_eq_true rfl); (case hT => decide +kernel))
        (try simp only [Exit.inBlock, Exit.then]); refine bodyPost_ret (results2 rfl (res_tmp rfl) (res_tmp rfl)) rfl ?_
        exact ⟨bX, rfl, S3⟩
end Go.Proofs.YtmpfbkfemlhekaaGreatDoor
/- A range over a function that goes through a map's keys, in an order that nobody knows ahead. Over any program. -/
namespace Go.Proofs.YtmpfbkfemlhekaaGreatDoor.Mem
open Go Go.RowKit Reg
section
variable {G : Nat → Prop} {w0 w : World} {L : List Asn} {A B : Asn}
theorem St.swapLast (S : St G w0 w (L ++ [A, B])) : St G w0 w (L ++ [B, A]) := by
  refine S.sub (fun i => if i = L.length then L.length + 1 else if i = L.length + 1 then L.length else i) (fun i j h1 h2 e => ?_) (fun i C h => ?_)
  · simp only [List.length_append, List.length_cons, List.length_nil] at h1 h2
    by_cases a1 : i = L.length <;> by_cases a2 : i = L.length + 1 <;> by_cases b1 : j = L.length <;> by_cases b2 : j = L.length + 1 <;> simp [a1, a2, b1, b2] at e <;> omega
  · have hl := (List.getElem?_eq_some_iff.1 h).1
    simp only [List.length_append, List.length_cons, List.length_nil] at hl
    split
    · subst i; rw [List.getElem?_append_right (by omega)] at h ⊢; simp at h; subst h; simp
    · split
      · subst i; rw [List.getElem?_append_right (by omega)] at h ⊢; simp at h; subst h; simp
      · rw [List.getElem?_append_left (by omega)] at h ⊢; exact h
end
def IterK (P : Program) (gf : FuncId) (lb : Array Value) (T : List Asn) {κ : Type} (ks : List κ) (Made : κ → Array Value → Prop) : Prop :=
  ∀ (l : Nat) (G : Nat → Prop) (w0 W : World) (Φ : List κ → List Asn → Prop) (L : List Asn),
    (∀ (pre : List κ) (x : κ) (args : Array Value) (L : List Asn) (A : Asn) (W : World), (∃ rest, (pre ++ x :: rest).Perm ks) → Made x args → A.sh = false → Φ pre L → St G w0 W (T ++ (L ++ [A])) →
      YieldAt Fence.wide 0 P l args W fun e W' => ∃ L', St G w0 W' (T ++ (L' ++ [A])) ∧ e = .returned (.bool true) ∧ Φ (pre ++ [x]) L') →
    Φ [] L → St G w0 W (T ++ L) →
    Calls P gf (#[.func (.yield l) #[] #[]] ++ lb) W fun e W' => (∃ v, e = .returned v) ∧ ∃ L' all, all.Perm ks ∧ St G w0 W' (T ++ L') ∧ Φ all L'
def roundK (G : Nat → Prop) (w0 : World) (T : List Asn) (A X : Asn) (Φ : List Asn → Prop) : Exit → Act → World → Prop
  | .normal, _, W => ∃ L, Φ L ∧ St G w0 W (T ++ (L ++ [A, X]))
  | _, _, _ => False
section
variable {P : Program} {G : Nat → Prop} {w0 w : World} {L T : List Asn} {gf : FuncId} {lb : Array Value} {κ : Type} {ks : List κ} {Made : κ → Array Value → Prop}
  {g : Operand} {ps : Array Tmp} {assign body : Code} {Q : Exit → Act → World → Prop} {a : Act}
theorem wps_rangeK (hI : IterK P gf lb T ks Made) (S : St G w0 w (T ++ L)) (hg : a.eval g = .func (.func gf) #[] lb) (eg : ∀ args w, (callFunc gf args).run P w = .ok (.enter gf args) w)
    (Φ : List κ → List Asn → Prop) (h0 : Φ [] L) (hps : ∀ x args, Made x args → args.size = ps.size)
    (hround : ∀ (l D : Nat) (r : Loop) (pre : List κ) (x : κ) (args : Array Value) (L : List Asn) (A : Asn) (W : World), (∃ rest, (pre ++ x :: rest).Perm ks) → Made x args → A.sh = false → Φ pre L → St G w0 W (T ++ (L ++ [A, LoopA l D r])) →
      assign.wpIn (Fence.wide.inRound l) 0 P (Exit.then (fun a₁ W₁ => ∃ M, St G w0 W₁ (M ++ [LoopA l D r]) ∧
        ∀ (r' : Loop) (W₂ : World), St G w0 W₂ (M ++ [LoopA l D r']) → body.wpIn (Fence.wide.inRound l) 0 P (roundK G w0 T A (LoopA l D r') (Φ (pre ++ [x]))) a₁ W₂) (fun _ _ _ => False))
        { tmps := (ps.zip args).foldl (fun t (p, v) => t.setIfInBounds p v) a.tmps, defers := [] } W)
    (hdone : ∀ (D : Nat) (W : World) (L : List Asn) (all : List κ), all.Perm ks → Φ all L → St G w0 W (DefA D :: (T ++ L)) → Q .normal { a with defers := { target := .collected D, args := #[] } :: a.defers } W) :
    (Code.rangeFunc g ps assign body).wp P Q a w := by
  refine (wpIn_wide (n := 0)).1 (wpIn_rangeFunc fun fn _ => ?_)
  obtain ⟨rec, hrec⟩ : ∃ rec : LoopState → Option Code → Loop, rec = fun st pe => { state := st, pending := pe, fn, tmps := a.tmps, params := ps, assign, body, defers := w.heap.size } := ⟨_, rfl⟩
  have S1 := S.loopNew (rec .ready none)
  obtain ⟨l, D, hl, hD⟩ : ∃ l D, l = w.heap.size + 1 ∧ D = w.heap.size := ⟨_, _, rfl, rfl⟩
  obtain ⟨W1, hW1⟩ : ∃ W1, (w.alloc (.deferred (some []))).alloc (.loop (rec .ready none)) = W1 := ⟨_, rfl⟩
  rw [hW1, ← hl, ← hD] at S1
  refine ⟨l, [{ target := .collected D, args := #[] }], W1, { target := .fn (.func gf) lb, args := #[.func (.yield l) #[] #[]] }, W1, gf, #[.func (.yield l) #[] #[]] ++ lb, W1, ?_, ?_, fun _ _ => trivial, ?_, fun e => by simp [Fence.wide] at e, ?_⟩
  · rw [← hW1, hrec, hl, hD]; exact run_enterLoop_outer _ _ _ _ _
  · simp only [resolve, hg]; simp [go_sem]
  · simp [invoke, go_sem, eg]
  refine callsIn_wide.2 ((hI l G w0 W1 (fun pre M => ∃ L, M = L ++ [LoopA l D (rec .ready none)] ∧ Φ pre L) (L ++ [LoopA l D (rec .ready none)]) ?_ ⟨L, rfl, h0⟩ (by rw [← List.append_assoc]; exact S1)).mono ?_)
  · rintro pre x args _ A W hx hm hA ⟨L, rfl, hp⟩ S
    have e0 : ∀ r, T ++ (L ++ [LoopA l D r] ++ [A]) = (T ++ L) ++ [LoopA l D r, A] := fun r => by simp
    have e1 : ∀ r, (T ++ L) ++ [A, LoopA l D r] = (T ++ L ++ [A]) ++ [LoopA l D r] := fun r => by simp
    rw [e0] at S
    have S0 := S.swapLast
    have hy := run_yield (P := P) (args := args) (St.loopGet (by rw [← e1]; exact S0)) (by rw [hrec]; exact hps x args hm)
    refine ⟨_, _, _, _, hy, roundIn_of_wpIn trivial ?_⟩
    rw [hrec]
    refine wpIn_mono (hround l D _ pre x args L A W hx hm hA hp (by rw [← List.append_assoc]; exact S0)) ?_
    rintro e a1 W2 hq
    cases e with
    | normal =>
      obtain ⟨M, S2, hb⟩ := hq
      refine ⟨_, run_beginRound S2.loopGet (by rw [hrec]), ?_⟩
      have S3 := S2.loopSet { rec .ready none with state := .busy }
      refine wpIn_mono (hb _ _ S3) ?_
      rintro e a3 W3 hp3
      cases e with
      | normal =>
        obtain ⟨L3, hp3, S4⟩ := hp3
        have e2 : ∀ r, T ++ (L3 ++ [A, LoopA l D r]) = (T ++ L3 ++ [A]) ++ [LoopA l D r] := fun r => by simp
        rw [e2] at S4
        have hr := run_endRound (P := P) none S4.loopGet
        have S5 := S4.loopSet (rec .ready none)
        rw [hrec] at hr
        rw [← e2] at S5
        have e3 : T ++ (L3 ++ [A, LoopA l D (rec .ready none)]) = (T ++ L3) ++ [A, LoopA l D (rec .ready none)] := by simp
        rw [e3] at S5
        have S6 := S5.swapLast
        refine ⟨_, _, hr, L3 ++ [LoopA l D (rec .ready none)], ?_, rfl, L3, by rw [hrec], hp3⟩
        have e4 : T ++ (L3 ++ [LoopA l D (rec .ready none)] ++ [A]) = (T ++ L3) ++ [LoopA l D (rec .ready none), A] := by simp
        rw [e4]
        rw [hrec] at S6 ⊢
        exact S6
      | ret => exact hp3.elim
      | exit id => exact hp3.elim
      | goto t => exact hp3.elim
      | panic ch => exact hp3.elim
      | outgrown => exact hp3.elim
    | exit id => exact hq.elim
    | goto t => exact hq.elim
    | ret => exact hq.elim
    | panic ch => exact hq.elim
    | outgrown => exact hq.elim
  · rintro e W2 ⟨⟨v, rfl⟩, M, all, hall, S2, L2, rfl, hp⟩
    rw [← List.append_assoc] at S2
    exact ⟨none, _, by have := run_endLoop (P := P) S2.loopGet (by rw [hrec]; simp); rw [hrec] at this; exact this, hdone D _ L2 all hall hp (S2.loopSet _).loopEnd⟩
end
end Go.Proofs.YtmpfbkfemlhekaaGreatDoor.Mem
/- A region in the text's order that calls yield. Over any program. -/
namespace Go.Proofs.YtmpfbkfemlhekaaGreatDoor.Mem
open Go Go.RowKit Reg
section
variable {P : Program} {ops : Array Oper} {Q : Exit → Act → World → Prop} {K : Act → World → Prop}
theorem list_in_tail {F : Fence} {n : Nat} (hF : Wide F) {tl : List Oper} (hQ : ∀ a w, K a w → wpListIn F n P ops Q tl a w) : ∀ (l : List Oper), l.all noDefer = true → ∀ (a : Act) (w : World), wpList P ops (Only K) l a w → wpListIn F n P ops Q (l ++ tl) a w
  | [], _, a, w, h => hQ a w h
  | o :: rest, hd, a, w, h => by
    simp only [List.all_cons, Bool.and_eq_true] at hd
    rw [List.cons_append]
    unfold wpListIn
    unfold wpList at h
    split
    · rename_i hw
      rw [if_pos hw] at h
      rcases h with h | ⟨_, h⟩
      · exact Oper.wpIn_mono (fun a w => list_in_tail hF hQ rest hd.2 a w) (oper_in hF hd.1 h)
      · exact absurd h only_lets
    · rename_i hw
      rw [if_neg hw] at h
      exact ⟨fun f _ => hF.fn f, list_in_tail hF hQ rest hd.2 _ _ h⟩
theorem wp_region_yl {id : Nat} {l : List Oper} {a : Act} {w : World} (y : Nat) {pre tl : List Oper} (h1 : l.take y = pre) (h2 : l.drop y = tl) (hd : pre.all noDefer = true)
    (h : ∀ K : Act → World → Prop, (∀ a w, wpListIn Fence.wide 0 P l.toArray Q tl a w → K a w) → wpList P l.toArray (Only K) pre a w) : (Code.region id l.toArray false).wp P Q a w := by
  refine (wpIn_wide (n := 0)).1 (wpIn_region_lit ?_)
  have := list_in_tail (F := Fence.wide) (n := 0) (Q := Q) (.inl rfl) (fun _ _ h => h) pre hd a w (h _ fun _ _ h => h)
  rw [← h1, ← h2, List.take_append_drop] at this
  exact this
theorem yield_in {l : Nat} {o : Oper} {tl : List Oper} {x : Operand} {ars : Array Operand} {ts : Array TypeId} {d : Option Tmp} {argl : List Value} {a : Act} {w : World} {R : Ending → World → Prop}
    (ho : o.op = .call { callee := .value x, args := ars, argTypes := ts }) (hdst : o.dst = d) (hg : o.guard = none) (hx : a.eval x = .func (.yield l) #[] #[]) (has : ars.toList.map a.eval = argl) (hY : YieldAt Fence.wide 0 P l argl.toArray w R)
    (hR : ∀ e w', R e w' → ∃ v, e = .returned v ∧ wpListIn Fence.wide 0 P ops Q tl (a.put d v) w') : wpListIn Fence.wide 0 P ops Q (o :: tl) a w := by
  have has2 : ars.map a.eval = argl.toArray := by rw [← Array.toList_inj]; simpa using has
  obtain ⟨fn, tmps, assign, body, hy, hround⟩ := hY
  unfold wpListIn
  have hw : Region.wanted o (yielded ops a.tmps) = true := by unfold Region.wanted; rw [hg]
  rw [if_pos hw]
  refine ⟨fun _ _ => trivial, ?_⟩
  have hs : o.semAt Fence.wide.round a.eval = execOp a.eval o := Oper.semAt_eq _ _ _ (fun c e => by rw [ho] at e; cases e)
  rw [hs]
  have hrun : (execOp a.eval o).run P w = .ok (.round l fn tmps assign body) w := by
    obtain ⟨dst, op, type, pos, af, guard⟩ := o
    simp only at ho
    subst ho
    simp only [execOp, resolve, hx, has2]
    simp [go_sem, invoke, hy]
  rw [hrun, Oper.uponIn_round]
  refine ⟨fun e => by simp [Fence.wide] at e, hround.mono fun e w' he => ?_⟩
  obtain ⟨v, rfl, hk⟩ := hR e w' he
  rw [hdst]
  exact hk
theorem list_only {l : List Oper} {a : Act} {w : World} (hd : l.all noDefer = true) (h : ∀ K : Act → World → Prop, (∀ a w, Q .normal a w → K a w) → wpList P ops (Only K) l a w) : wpListIn Fence.wide 0 P ops Q l a w :=
  list_in (.inl rfl) (fun _ _ h => h) l hd a w (h _ fun _ _ h => h)
end
end Go.Proofs.YtmpfbkfemlhekaaGreatDoor.Mem
/- What a function whose body holds a range over a function wants beside the law. Over any program. -/
namespace Go.Proofs.YtmpfbkfemlhekaaGreatDoor
open Go Go.RowKit Reg Mem

section
variable {P : Program} {fn : Func} {R : Ending → World → Prop} {G : Nat → Prop} {w0 w : World} {L : List Asn} {a : Act} {tmps : Array Value} {r1 : ResultVar} {v1 : Value}
theorem results1 (h : fn.results = #[r1]) (h1 : ResV P w tmps r1 v1) : (results fn tmps).run P w = .ok v1 w := by
  cases r1 <;> simp only [ResV, Array.getD_eq_getD_getElem?] at h1
  · simp [results, h, h1]
  · obtain ⟨b1, p1, l1⟩ := h1; simp [results, h, p1, asAddr, l1]
theorem leaves_ret {v : Value} (hd : a.defers = []) (hr : (results fn a.tmps).run P w = .ok v w) (hR : R (.returned v) w) : bodyPostM Fence.wide 0 P fn R .ret a w := by
  show LeavesInM _ _ _ _ _ _ a.defers _ _
  rw [hd]
  exact ⟨v, hr, hR⟩
theorem leaves_ret1 {D : Nat} (S : St G w0 w (DefA D :: L)) (hd : a.defers = [{ target := .collected D, args := #[] }]) (h : ∀ w', St G w0 w' L → ∃ v, (results fn a.tmps).run P w' = .ok v w' ∧ R (.returned v) w') : bodyPostM Fence.wide 0 P fn R .ret a w := by
  show LeavesInM _ _ _ _ _ _ a.defers _ _
  rw [hd]
  exact ⟨by simp, .inl ⟨D, _, rfl, run_takeDeferred S.taken.1, h _ S.taken.2⟩⟩
end
theorem calls_enter {P : Program} {f : FuncId} {fn : Func} {c : Code} (hf : P.funcs[f]? = some fn) (hname : (fn.name == "runtime.NumGoroutine") = false) (hb : fn.body = some c) (args : Array Value) (w : World) : (callFunc f args).run P w = .ok (.enter f args) w := by
  have h1 : fn.name ≠ "runtime.NumGoroutine" := by simpa using hname
  simp [callFunc, hf, h1, hb]
theorem Mem.St.lastSplit {G : Nat → Prop} {w0 w : World} {L : List Asn} {X : Asn} (S : St G w0 w L) (h : L.getLast? = some X) : St G w0 w (L.dropLast ++ [X]) := by
  obtain ⟨ys, rfl⟩ := List.getLast?_eq_some_iff.1 h
  simpa using S
theorem wpi_list_k {F : Fence} {n : Nat} {P : Program} {Q : Exit → Act → World → Prop} {id : Nat} {l : List Oper} {a : Act} {w : World} (hF : Mem.Wide F) (hd : l.all noDefer = true)
    (h : ∀ K : Act → World → Prop, (∀ a w, Q .normal a w → K a w) → wpList P l.toArray (Only K) l a w) : (Code.region id l.toArray false).wpIn F n P Q a w := wpi_list hF hd (h _ fun _ _ h => h)
theorem wpi_at {F : Fence} {n : Nat} {P : Program} {ops : Array Oper} {Q : Exit → Act → World → Prop} {l : List Oper} {a : Act} {w : World} (hF : Mem.Wide F) (hd : l.all noDefer = true)
    (h : ∀ K : Act → World → Prop, (∀ a w, Q .normal a w → K a w) → wpList P ops (Only K) l a w) : wpListIn F n P ops Q l a w := list_in hF (fun _ _ h => h) l hd a w (h _ fun _ _ h => h)
def shr (A : Asn) : Asn where
  sh := true
  at_ := A.at_
  loc := A.loc
  lt := A.lt
end Go.Proofs.YtmpfbkfemlhekaaGreatDoor

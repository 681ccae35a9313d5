import Derived.Test.YtemgonomenjjaaaGreatDoorU03
import Derived.RangeFuncNested
import Derived.RangeFuncBound
import Derived.RangeFuncCalls
import Derived.RangeFuncLeaves
import Derived.OrdersIn
import Derived.OwnWalkIn
import Derived.TacticsInMore
import Derived.LoopNIn
import Derived.LoopIn
import Derived.Test.YtemgonomenjjaaaGreatDoorU04
import Derived.RangeFuncSeq
import Derived.Test.YtemgonomenjjaaaGreatDoorU09
import Derived.Test.YtemgonomenjjaaaGreatDoorU17
import Derived.Test.YtemgonomenjjaaaGreatDoorU18
import Derived.Deep.Cut
/- Regions in a round of a range over a function (or in an iterator), walked as regions anywhere. Over any program. -/
namespace Go.Proofs.YtemgonomenjjaaaGreatDoor.Mem
open Go Go.RowKit Reg

/-- A fence that bars nothing, in a round or in none. -/
def Wide (F : Fence) : Prop := F = Fence.wide ∨ ∃ r, F = Fence.wide.inRound r
theorem Wide.fn {F : Fence} (h : Wide F) (f : FuncId) : F.fn f := by rcases h with rfl | ⟨r, rfl⟩ <;> exact trivial
theorem Wide.depth {F : Fence} (h : Wide F) : F.depth = none := by rcases h with rfl | ⟨r, rfl⟩ <;> rfl
theorem Wide.calls {F : Fence} {n : Nat} {P : Program} {f : FuncId} {args : Array Value} {w : World} {R : Ending → World → Prop} (hF : Wide F) (h : Calls P f args w R) : CallsIn F n P f args w R := by
  rcases hF with rfl | ⟨r, rfl⟩
  · exact callsIn_wide.2 h
  · exact CallsIn.inRound r (callsIn_wide.2 h)
theorem Wide.rows {F : Fence} {n : Nat} {P : Program} {row : String} {args : Array Value} {w : World} {R : Value → World → Prop} (hF : Wide F) (h : Rows P row args w R) : RowsIn F n P row args w R := by
  rcases hF with rfl | ⟨r, rfl⟩
  · intro c cs _
    obtain ⟨v, w', hR, hs⟩ := h c cs
    exact ⟨v, w', hR, stepsIn_wide.2 hs⟩
  · intro c cs _
    obtain ⟨v, w', hR, hs⟩ := h c cs
    exact ⟨v, w', hR, stepsIn_wide.2 hs⟩
/-- No other end than the plain one. -/
def Only (K : Act → World → Prop) : Exit → Act → World → Prop
  | .normal, a, w => K a w
  | _, _, _ => False
theorem only_lets {K : Act → World → Prop} : ¬ LetsOut (Only K) := fun ⟨_, _, h⟩ => h
def noDefer (o : Oper) : Bool := match o.op with | .defer _ => false | _ => true
section
variable {F : Fence} {n : Nat} {P : Program} {ops : Array Oper} {Q : Exit → Act → World → Prop} {md : Region.Mode} {K : Act → World → Prop}
theorem oper_in (hF : Wide F) {o : Oper} (hd : noDefer o = true) {a : Act} {w : World} {K' : Act → World → Prop} (h : o.wp P a w K' (Only K)) : o.wpIn F n P a w K' Q := by
  refine ⟨fun f _ => hF.fn f, ?_⟩
  have hs : o.semAt F.round a.eval = execOp a.eval o := Oper.semAt_eq _ _ _ (fun c e => by simp [noDefer, e] at hd)
  rw [hs]
  have hdp : ¬ (F.depth.isSome = true) := by rw [hF.depth]; simp
  unfold Oper.wp at h
  generalize (execOp a.eval o).run P w = r at *
  cases r with
  | ok x w' =>
    cases x <;> simp only [Oper.upon, Oper.uponIn] at h ⊢ <;>
      first
        | exact h
        | exact h.elim
        | exact ⟨fun e => (hdp e).elim, hF.calls (h.mono fun e w'' he => by cases e <;> first | exact he | exact he.elim | exact absurd he only_lets)⟩
        | exact ⟨fun e => (hdp e).elim, hF.rows h⟩
  | halt x w' => cases x <;> simp only [Oper.upon, Oper.uponIn] at h ⊢ <;> exact h.elim
theorem list_in (hF : Wide F) (hQ : ∀ a w, K a w → Q .normal a w) : ∀ (l : List Oper), l.all noDefer = true → ∀ (a : Act) (w : World), wpList P ops (Only K) l a w → wpListIn F n P ops Q l a w
  | [], _, a, w, h => hQ a w h
  | o :: rest, hd, a, w, h => by
    simp only [List.all_cons, Bool.and_eq_true] at hd
    unfold wpListIn
    unfold wpList at h
    split
    · rename_i hw
      rw [if_pos hw] at h
      rcases h with h | ⟨_, h⟩
      · exact Oper.wpIn_mono (fun a w => list_in hF hQ rest hd.2 a w) (oper_in hF hd.1 h)
      · exact absurd h only_lets
    · rename_i hw
      rw [if_neg hw] at h
      exact ⟨fun f _ => hF.fn f, list_in hF hQ rest hd.2 _ _ h⟩
/-- A region that keeps the text's order. -/
theorem wpi_list {id : Nat} {l : List Oper} {a : Act} {w : World} (hF : Wide F) (hd : l.all noDefer = true) (h : wpList P l.toArray (Only (Q .normal)) l a w) : (Code.region id l.toArray false).wpIn F n P Q a w :=
  wpIn_region_lit (list_in hF (fun _ _ h => h) l hd a w h)
end
end Go.Proofs.YtemgonomenjjaaaGreatDoor.Mem
/- A range over a function, in states: the iterator's contract, and the law for the statement. Over any program. -/
namespace Go.Proofs.YtemgonomenjjaaaGreatDoor.Mem
open Go Go.RowKit Reg

/-- A loop's record, and the block for the calls that its rounds put off. -/
def LoopA (l D : Nat) (r : Loop) : Asn where
  sh := false
  at_ := fun w F => w.heap[l]? = some (.loop r) ∧ w.heap[D]? = some (.deferred (some [])) ∧ l ≠ D ∧ ∀ b, F b ↔ b = l ∨ b = D
  loc := fun h hb => ⟨(hb _ ((h.2.2.2 _).2 (.inl rfl))).trans h.1, (hb _ ((h.2.2.2 _).2 (.inr rfl))).trans h.2.1, h.2.2⟩
  lt := fun h b hb => by
    rcases (h.2.2.2 b).1 hb with rfl | rfl
    · exact (Array.getElem?_eq_some_iff.1 h.1).1
    · exact (Array.getElem?_eq_some_iff.1 h.2.1).1
/-- The block alone. -/
def DefA (D : Nat) : Asn where
  sh := false
  at_ := fun w F => w.heap[D]? = some (.deferred (some [])) ∧ ∀ b, F b ↔ b = D
  loc := fun h hb => ⟨(hb _ ((h.2 _).2 rfl)).trans h.1, h.2⟩
  lt := fun h b hb => by obtain rfl := (h.2 b).1 hb; exact (Array.getElem?_eq_some_iff.1 h.1).1
section
variable {G : Nat → Prop} {w0 w w' : World} {L L' : List Asn} {A A' : Asn} {i : Nat}
/-- Some of the things, in another order. -/
theorem St.sub (S : St G w0 w L) (f : Nat → Nat) (hi : ∀ i j, i < L'.length → j < L'.length → f i = f j → i = j) (h : ∀ i A, L'[i]? = some A → L[f i]? = some A) : St G w0 w L' := by
  obtain ⟨Fs, hf, hd⟩ := S.ex
  refine ⟨S.keep, fun i => Fs (f i), fun i A hA => hf _ A (h i A hA), fun i j A B hij hA hB => ?_⟩
  have h1 := (List.getElem?_eq_some_iff.1 hA).1
  have h2 := (List.getElem?_eq_some_iff.1 hB).1
  rcases Nat.lt_or_gt_of_ne (fun e : f i = f j => by have := hi i j h1 h2 e; omega) with hlt | hlt
  · exact hd _ _ A B hlt (h i A hA) (h j B hB)
  · rcases hd _ _ B A hlt (h j B hB) (h i A hA) with ⟨e1, e2⟩ | e
    · exact .inl ⟨e2, e1⟩
    · exact .inr fun x hx hx' => e x hx' hx
theorem St.rot (S : St G w0 w (A :: L)) : St G w0 w (L ++ [A]) := by
  refine S.sub (fun i => if i < L.length then i + 1 else 0) (fun i j h1 h2 e => ?_) (fun i B h => ?_)
  · simp only [List.length_append, List.length_cons, List.length_nil] at h1 h2
    split at e <;> split at e <;> omega
  · have hl := (List.getElem?_eq_some_iff.1 h).1
    simp only [List.length_append, List.length_cons, List.length_nil] at hl
    split
    · rename_i hlt; rw [List.getElem?_append_left hlt] at h; simpa using h
    · obtain rfl : i = L.length := by omega
      rw [List.getElem?_append_right (Nat.le_refl _)] at h; simpa using h
theorem St.unrot (S : St G w0 w (L ++ [A])) : St G w0 w (A :: L) := by
  refine S.sub (fun i => if i = 0 then L.length else i - 1) (fun i j h1 h2 e => ?_) (fun i B h => ?_)
  · simp only [List.length_cons] at h1 h2
    split at e <;> split at e <;> omega
  · have hl := (List.getElem?_eq_some_iff.1 h).1
    simp only [List.length_cons] at hl
    split
    · subst i; simpa using h
    · obtain ⟨k, rfl⟩ : ∃ k, i = k + 1 := ⟨i - 1, by omega⟩
      simp only [Nat.add_sub_cancel, List.getElem?_cons_succ] at h ⊢
      rw [List.getElem?_append_left (by omega)]; exact h
theorem keep_putObj (w : World) (l : Nat) (o : Obj) : Keep (fun b => b = l) w (w.putObj l o) :=
  ⟨rfl, rfl, rfl, by simp, fun b _ hb => World.putObj_heap_other hb, Nat.le_refl _⟩
theorem St.loopSet {l D : Nat} {r : Loop} (S : St G w0 w (L ++ [LoopA l D r])) (r' : Loop) : St G w0 (w.putObj l (.loop r')) (L ++ [LoopA l D r']) := by
  have S1 := S.unrot
  have S2 : St G w0 (w.putObj l (.loop r')) ((LoopA l D r :: L).set 0 (LoopA l D r')) := S1.step (i := 0) rfl rfl fun F h => by
    have hl := (Array.getElem?_eq_some_iff.1 h.1).1
    exact ⟨F, (keep_putObj w l _).mono (fun x _ hn e => hn ((h.2.2.2 x).2 (.inl e))), ⟨World.putObj_heap_same hl, (World.putObj_heap_other (Ne.symm h.2.2.1)).trans h.2.1, h.2.2⟩, fun _ h => .inl h⟩
  exact St.rot S2
theorem St.loopGet {l D : Nat} {r : Loop} (S : St G w0 w (L ++ [LoopA l D r])) : w.heap[l]? = some (.loop r) := by
  obtain ⟨F, h⟩ := S.unrot.get (i := 0) rfl; exact h.1
theorem St.loopNew (S : St G w0 w L) (r : Loop) : St G w0 ((w.alloc (.deferred (some []))).alloc (.loop r)) (L ++ [LoopA (w.heap.size + 1) w.heap.size r]) := by
  refine St.rot (S.grow (F := fun b => b = w.heap.size + 1 ∨ b = w.heap.size) ((keep_alloc w _).trans (keep_alloc _ _) (fun _ _ h => ⟨h, h⟩)) ⟨?_, ?_, by omega, fun _ => Iff.rfl⟩ (fun b hb => by omega))
  · have := World.alloc_heap_new (w.alloc (.deferred (some []))) (.loop r); rwa [World.size_alloc] at this
  · exact (Below.heap_alloc _ _ _ (by simp)).trans (World.alloc_heap_new w _)
theorem St.loopEnd {l D : Nat} {r : Loop} (S : St G w0 w (L ++ [LoopA l D r])) : St G w0 w (DefA D :: L) :=
  S.unrot.weak (i := 0) rfl (fun _ => rfl) fun _ h => ⟨fun b => b = D, fun b hb => (h.2.2.2 b).2 (.inr hb), h.2.1, fun _ => Iff.rfl⟩
/-- The mark is come to. -/
theorem St.taken {D : Nat} (S : St G w0 w (DefA D :: L)) : w.heap[D]? = some (.deferred (some [])) ∧ St G w0 (w.putObj D (.deferred none)) L := by
  obtain ⟨F, h⟩ := S.get (i := 0) rfl
  refine ⟨h.1, ?_⟩
  have S2 : St G w0 (w.putObj D (.deferred none)) ((DefA D :: L).set 0 (pur True)) := S.step (i := 0) rfl rfl fun _ h =>
    ⟨fun _ => False, (keep_putObj w D _).mono (fun x _ hn e => hn ((h.2 x).2 e)), ⟨trivial, fun _ h => h⟩, fun _ h => h.elim⟩
  exact St.tail S2
end
/-- An iterator's contract: it goes through xs, and hands each one over as arguments, with new things of its own; T: what it reads, which is there in each round, and left as it was. -/
def IterC (P : Program) (gf : FuncId) (lb : Array Value) (T : List Asn) {α : Type} (xs : List α) (Made : α → Array Value → List Asn → Prop) : Prop :=
  ∀ (l : Nat) (G : Nat → Prop) (w0 W : World) (Φ Ψ : Nat → List Asn → Prop) (L : List Asn),
    (∀ (j : Nat) (x : α) (args : Array Value) (N L : List Asn) (W : World), xs[j]? = some x → Made x args N → Φ j L → St G w0 W (N ++ (T ++ L)) →
      YieldAt Fence.wide 0 P l args W fun e W' => ∃ L', St G w0 W' (T ++ L') ∧ ((e = .returned (.bool true) ∧ Φ (j + 1) L') ∨ (e = .returned (.bool false) ∧ Ψ (j + 1) L'))) →
    Φ 0 L → St G w0 W (T ++ L) →
    Calls P gf (#[.func (.yield l) #[] #[]] ++ lb) W fun e W' => (∃ v, e = .returned v) ∧ ∃ L', St G w0 W' (T ++ L') ∧ (Φ xs.length L' ∨ ∃ j, j ≤ xs.length ∧ Ψ j L')
/-- What is asked at the end of a round's body. -/
def roundQ (G : Nat → Prop) (w0 : World) (T : List Asn) (X : Asn) (Φ : List Asn → Prop) (Ψ : Code → List Asn → Prop) : Exit → Act → World → Prop
  | .normal, _, W => ∃ L, Φ L ∧ St G w0 W (T ++ (L ++ [X]))
  | .ret, _, W => ∃ L, Ψ .ret L ∧ St G w0 W (T ++ (L ++ [X]))
  | .exit id, _, W => ∃ L, Ψ (.exit id) L ∧ St G w0 W (T ++ (L ++ [X]))
  | .goto t, _, W => ∃ L, Ψ (.goto t) L ∧ St G w0 W (T ++ (L ++ [X]))
  | .panic _, _, _ => False
  | .outgrown, _, _ => False
section
variable {P : Program} {G : Nat → Prop} {w0 w : World} {L T : List Asn} {gf : FuncId} {lb : Array Value} {α : Type} {xs : List α} {Made : α → Array Value → List Asn → Prop}
  {g : Operand} {ps : Array Tmp} {assign body : Code} {Q : Exit → Act → World → Prop} {a : Act}
theorem wps_range (hI : IterC P gf lb T xs Made) (S : St G w0 w (T ++ L)) (hg : a.eval g = .func (.func gf) #[] lb) (eg : ∀ args w, (callFunc gf args).run P w = .ok (.enter gf args) w)
    (Φ : Nat → List Asn → Prop) (Ψ : Code → Nat → List Asn → Prop) (h0 : Φ 0 L) (hps : ∀ x args N, Made x args N → args.size = ps.size)
    (hround : ∀ (l D : Nat) (r : Loop) (j : Nat) (x : α) (args : Array Value) (N L : List Asn) (W : World), xs[j]? = some x → Made x args N → Φ j L → St G w0 W (N ++ (T ++ (L ++ [LoopA l D r]))) →
      assign.wpIn (Fence.wide.inRound l) 0 P (Exit.then (fun a₁ W₁ => ∃ M, St G w0 W₁ (M ++ [LoopA l D r]) ∧
        ∀ (r' : Loop) (W₂ : World), St G w0 W₂ (M ++ [LoopA l D r']) → body.wpIn (Fence.wide.inRound l) 0 P (roundQ G w0 T (LoopA l D r') (Φ (j + 1)) (fun c => Ψ c (j + 1))) a₁ W₂) (fun _ _ _ => False))
        { tmps := (ps.zip args).foldl (fun t (p, v) => t.setIfInBounds p v) a.tmps, defers := [] } W)
    (hdone : ∀ (D : Nat) (W : World) (L : List Asn), Φ xs.length L → St G w0 W (DefA D :: (T ++ L)) → Q .normal { a with defers := { target := .collected D, args := #[] } :: a.defers } W)
    (hstop : ∀ (D : Nat) (c : Code) (j : Nat) (W : World) (L : List Asn), j ≤ xs.length → Ψ c j L → St G w0 W (DefA D :: (T ++ L)) → c.wp P Q { a with defers := { target := .collected D, args := #[] } :: a.defers } W) :
    (Code.rangeFunc g ps assign body).wp P Q a w := by
  refine (wpIn_wide (n := 0)).1 (wpIn_rangeFunc fun fn _ => ?_)
  obtain ⟨rec, hrec⟩ : ∃ rec : LoopState → Option Code → Loop, rec = fun st pe => { state := st, pending := pe, fn, tmps := a.tmps, params := ps, assign, body, defers := w.heap.size } := ⟨_, rfl⟩
  have S1 := S.loopNew (rec .ready none)
  obtain ⟨l, D, hl, hD⟩ : ∃ l D, l = w.heap.size + 1 ∧ D = w.heap.size := ⟨_, _, rfl, rfl⟩
  obtain ⟨W1, hW1⟩ : ∃ W1, (w.alloc (.deferred (some []))).alloc (.loop (rec .ready none)) = W1 := ⟨_, rfl⟩
  rw [hW1, ← hl, ← hD] at S1
  refine ⟨l, [{ target := .collected D, args := #[] }], W1, { target := .fn (.func gf) lb, args := #[.func (.yield l) #[] #[]] }, W1, gf, #[.func (.yield l) #[] #[]] ++ lb, W1, ?_, ?_, fun _ _ => trivial, ?_, fun e => by simp [Fence.wide] at e, ?_⟩
  · rw [← hW1, hrec, hl, hD]; exact run_enterLoop_outer _ _ _ _ _
  · simp only [resolve, hg]; simp [go_sem]
  · simp [invoke, go_sem, eg]
  refine callsIn_wide.2 ((hI l G w0 W1 (fun j M => ∃ L, M = L ++ [LoopA l D (rec .ready none)] ∧ Φ j L) (fun j M => ∃ c L, M = L ++ [LoopA l D (rec .done (some c))] ∧ Ψ c j L) (L ++ [LoopA l D (rec .ready none)]) ?_ ⟨L, rfl, h0⟩ (by rw [← List.append_assoc]; exact S1)).mono ?_)
  · rintro j x args N _ W hx hm ⟨L, rfl, hp⟩ S
    have e1 : ∀ r, N ++ (T ++ (L ++ [LoopA l D r])) = (N ++ (T ++ L)) ++ [LoopA l D r] := fun r => by simp
    have hy := run_yield (P := P) (args := args) (St.loopGet (by rw [← e1]; exact S)) (by rw [hrec]; exact hps x args N hm)
    refine ⟨_, _, _, _, hy, roundIn_of_wpIn trivial ?_⟩
    rw [hrec]
    refine wpIn_mono (hround l D _ j x args N L W hx hm hp S) ?_
    rintro e a1 W2 hq
    cases e with
    | normal =>
      obtain ⟨M, S2, hb⟩ := hq
      refine ⟨_, run_beginRound S2.loopGet (by rw [hrec]), ?_⟩
      have S3 := S2.loopSet { rec .ready none with state := .busy }
      refine wpIn_mono (hb _ _ S3) ?_
      have e2 : ∀ (L : List Asn) r, T ++ (L ++ [LoopA l D r]) = (T ++ L) ++ [LoopA l D r] := fun L r => by simp
      have fin : ∀ (jump : Option Code) (L : List Asn) (W3 : World), St G w0 W3 (T ++ (L ++ [LoopA l D { rec .ready none with state := .busy }])) →
          (Instr.endRound l jump).run P W3 = .ok (.bool jump.isNone) (W3.putObj l (.loop (rec (if jump.isNone then .ready else .done) jump))) ∧ St G w0 (W3.putObj l (.loop (rec (if jump.isNone then .ready else .done) jump))) (T ++ (L ++ [LoopA l D (rec (if jump.isNone then .ready else .done) jump)])) := by
        intro jump L W3 S4
        rw [e2] at S4
        refine ⟨?_, by rw [e2]; exact S4.loopSet _⟩
        have := run_endRound (P := P) jump S4.loopGet
        rw [hrec] at this ⊢
        exact this
      rintro e a3 W3 hp3
      cases e with
      | normal =>
        obtain ⟨L3, hp3, S4⟩ := hp3
        obtain ⟨hr, S5⟩ := fin none L3 W3 S4
        exact ⟨_, _, hr, _, S5, .inl ⟨rfl, L3, by rw [hrec]; rfl, hp3⟩⟩
      | ret =>
        obtain ⟨L3, hp3, S4⟩ := hp3
        obtain ⟨hr, S5⟩ := fin (some .ret) L3 W3 S4
        exact ⟨_, _, hr, _, S5, .inr ⟨rfl, .ret, L3, by rw [hrec]; rfl, hp3⟩⟩
      | exit id =>
        obtain ⟨L3, hp3, S4⟩ := hp3
        obtain ⟨hr, S5⟩ := fin (some (.exit id)) L3 W3 S4
        exact ⟨_, _, hr, _, S5, .inr ⟨rfl, .exit id, L3, by rw [hrec]; rfl, hp3⟩⟩
      | goto t =>
        obtain ⟨L3, hp3, S4⟩ := hp3
        obtain ⟨hr, S5⟩ := fin (some (.goto t)) L3 W3 S4
        exact ⟨_, _, hr, _, S5, .inr ⟨rfl, .goto t, L3, by rw [hrec]; rfl, hp3⟩⟩
      | panic ch => exact hp3.elim
      | outgrown => exact hp3.elim
    | exit id => exact hq.elim
    | goto t => exact hq.elim
    | ret => exact hq.elim
    | panic ch => exact hq.elim
    | outgrown => exact hq.elim
  · rintro e W2 ⟨⟨v, rfl⟩, M, S2, ⟨L2, rfl, hp⟩ | ⟨j, hj, c, L2, rfl, hp⟩⟩
    · rw [← List.append_assoc] at S2
      exact ⟨none, _, by have := run_endLoop (P := P) S2.loopGet (by rw [hrec]; simp); rw [hrec] at this; exact this, hdone D _ L2 hp (S2.loopSet _).loopEnd⟩
    · rw [← List.append_assoc] at S2
      exact ⟨some c, _, by have := run_endLoop (P := P) S2.loopGet (by rw [hrec]; simp); rw [hrec] at this; exact this, (wpIn_wide (n := 0)).2 (hstop D c j _ L2 hj hp (S2.loopSet _).loopEnd)⟩
/-- A function whose body holds a range over a function. -/
theorem calls_marks {f : FuncId} {fn : Func} {c : Code} {args : Array Value} {w : World} {R : Ending → World → Prop} (hf : P.funcs[f]? = some fn) (hb : fn.body = some c)
    (h : c.wp P (bodyPostM Fence.wide 0 P fn R) { tmps := args ++ Array.replicate (fn.ntmps - args.size) undef, defers := [] } w) : Calls P f args w R :=
  callsIn_wide.1 (callsIn_of_wp_marks (n := 0) hf hb trivial ((wpIn_wide (n := 0)).2 h))
end
end Go.Proofs.YtemgonomenjjaaaGreatDoor.Mem
/- A region in the text's order that calls yield. Over any program. -/
namespace Go.Proofs.YtemgonomenjjaaaGreatDoor.Mem
open Go Go.RowKit Reg
section
variable {P : Program} {ops : Array Oper} {Q : Exit → Act → World → Prop} {K : Act → World → Prop}
theorem list_in_tail {F : Fence} {n : Nat} (hF : Wide F) {tl : List Oper} (hQ : ∀ a w, K a w → wpListIn F n P ops Q tl a w) : ∀ (l : List Oper), l.all noDefer = true → ∀ (a : Act) (w : World), wpList P ops (Only K) l a w → wpListIn F n P ops Q (l ++ tl) a w
  | [], _, a, w, h => hQ a w h
  | o :: rest, hd, a, w, h => by
    simp only [List.all_cons, Bool.and_eq_true] at hd
    rw [List.cons_append]
    unfold wpListIn
    unfold wpList at h
    split
    · rename_i hw
      rw [if_pos hw] at h
      rcases h with h | ⟨_, h⟩
      · exact Oper.wpIn_mono (fun a w => list_in_tail hF hQ rest hd.2 a w) (oper_in hF hd.1 h)
      · exact absurd h only_lets
    · rename_i hw
      rw [if_neg hw] at h
      exact ⟨fun f _ => hF.fn f, list_in_tail hF hQ rest hd.2 _ _ h⟩
theorem wp_region_yl {id : Nat} {l : List Oper} {a : Act} {w : World} (y : Nat) {pre tl : List Oper} (h1 : l.take y = pre) (h2 : l.drop y = tl) (hd : pre.all noDefer = true)
    (h : ∀ K : Act → World → Prop, (∀ a w, wpListIn Fence.wide 0 P l.toArray Q tl a w → K a w) → wpList P l.toArray (Only K) pre a w) : (Code.region id l.toArray false).wp P Q a w := by
  refine (wpIn_wide (n := 0)).1 (wpIn_region_lit ?_)
  have := list_in_tail (F := Fence.wide) (n := 0) (Q := Q) (.inl rfl) (fun _ _ h => h) pre hd a w (h _ fun _ _ h => h)
  rw [← h1, ← h2, List.take_append_drop] at this
  exact this
theorem yield_in {l : Nat} {o : Oper} {tl : List Oper} {x : Operand} {ars : Array Operand} {ts : Array TypeId} {d : Option Tmp} {argl : List Value} {a : Act} {w : World} {R : Ending → World → Prop}
    (ho : o.op = .call { callee := .value x, args := ars, argTypes := ts }) (hdst : o.dst = d) (hg : o.guard = none) (hx : a.eval x = .func (.yield l) #[] #[]) (has : ars.toList.map a.eval = argl) (hY : YieldAt Fence.wide 0 P l argl.toArray w R)
    (hR : ∀ e w', R e w' → ∃ v, e = .returned v ∧ wpListIn Fence.wide 0 P ops Q tl (a.put d v) w') : wpListIn Fence.wide 0 P ops Q (o :: tl) a w := by
  have has2 : ars.map a.eval = argl.toArray := by rw [← Array.toList_inj]; simpa using has
  obtain ⟨fn, tmps, assign, body, hy, hround⟩ := hY
  unfold wpListIn
  have hw : Region.wanted o (yielded ops a.tmps) = true := by unfold Region.wanted; rw [hg]
  rw [if_pos hw]
  refine ⟨fun _ _ => trivial, ?_⟩
  have hs : o.semAt Fence.wide.round a.eval = execOp a.eval o := Oper.semAt_eq _ _ _ (fun c e => by rw [ho] at e; cases e)
  rw [hs]
  have hrun : (execOp a.eval o).run P w = .ok (.round l fn tmps assign body) w := by
    obtain ⟨dst, op, type, pos, af, guard⟩ := o
    simp only at ho
    subst ho
    simp only [execOp, resolve, hx, has2]
    simp [go_sem, invoke, hy]
  rw [hrun, Oper.uponIn_round]
  refine ⟨fun e => by simp [Fence.wide] at e, hround.mono fun e w' he => ?_⟩
  obtain ⟨v, rfl, hk⟩ := hR e w' he
  rw [hdst]
  exact hk
theorem list_only {l : List Oper} {a : Act} {w : World} (hd : l.all noDefer = true) (h : ∀ K : Act → World → Prop, (∀ a w, Q .normal a w → K a w) → wpList P ops (Only K) l a w) : wpListIn Fence.wide 0 P ops Q l a w :=
  list_in (.inl rfl) (fun _ _ h => h) l hd a w (h _ fun _ _ h => h)
end
end Go.Proofs.YtemgonomenjjaaaGreatDoor.Mem
/- What a function whose body holds a range over a function wants beside the law. Over any program. -/
namespace Go.Proofs.YtemgonomenjjaaaGreatDoor
open Go Go.RowKit Reg Mem

section
variable {P : Program} {fn : Func} {R : Ending → World → Prop} {G : Nat → Prop} {w0 w : World} {L : List Asn} {a : Act} {tmps : Array Value} {r1 : ResultVar} {v1 : Value}
theorem results1 (h : fn.results = #[r1]) (h1 : ResV P w tmps r1 v1) : (results fn tmps).run P w = .ok v1 w := by
  cases r1 <;> simp only [ResV, Array.getD_eq_getD_getElem?] at h1
  · simp [results, h, h1]
  · obtain ⟨b1, p1, l1⟩ := h1; simp [results, h, p1, asAddr, l1]
theorem leaves_ret1 {D : Nat} (S : St G w0 w (DefA D :: L)) (hd : a.defers = [{ target := .collected D, args := #[] }]) (h : ∀ w', St G w0 w' L → ∃ v, (results fn a.tmps).run P w' = .ok v w' ∧ R (.returned v) w') : bodyPostM Fence.wide 0 P fn R .ret a w := by
  show LeavesInM _ _ _ _ _ _ a.defers _ _
  rw [hd]
  exact ⟨by simp, .inl ⟨D, _, rfl, run_takeDeferred S.taken.1, h _ S.taken.2⟩⟩
end
theorem run_eql_func_nil {P : Program} (w : World) {t : TypeId} {ps rs : Array TypeId} {va : Bool} (f : Fn) (ts bs : Array Value) (ht : P.underlying t = some (.func ps rs va)) : (binOp .eql t (.func f ts bs) .nilFunc).run P w = .ok (.bool false) w := by
  have h : ∀ d : Nat, (Op.equalIn (d + 1) t (.func f ts bs) .nilFunc).run P w = .ok false w := fun d => by
    simp [Op.equalIn, run_underlying ht]
  simp only [binOp]
  simp [Op.equal, Op.maxDepth, h 9999]
theorem calls_enter {P : Program} {f : FuncId} {fn : Func} {c : Code} (hf : P.funcs[f]? = some fn) (hname : (fn.name == "runtime.NumGoroutine") = false) (hb : fn.body = some c) (args : Array Value) (w : World) : (callFunc f args).run P w = .ok (.enter f args) w := by
  have h1 : fn.name ≠ "runtime.NumGoroutine" := by simpa using hname
  simp [callFunc, hf, h1, hb]
theorem Mem.St.lastSplit {G : Nat → Prop} {w0 w : World} {L : List Asn} {X : Asn} (S : St G w0 w L) (h : L.getLast? = some X) : St G w0 w (L.dropLast ++ [X]) := by
  obtain ⟨ys, rfl⟩ := List.getLast?_eq_some_iff.1 h
  simpa using S
theorem wpi_list_k {F : Fence} {n : Nat} {P : Program} {Q : Exit → Act → World → Prop} {id : Nat} {l : List Oper} {a : Act} {w : World} (hF : Mem.Wide F) (hd : l.all noDefer = true)
    (h : ∀ K : Act → World → Prop, (∀ a w, Q .normal a w → K a w) → wpList P l.toArray (Only K) l a w) : (Code.region id l.toArray false).wpIn F n P Q a w := wpi_list hF hd (h _ fun _ _ h => h)
theorem wpi_at {F : Fence} {n : Nat} {P : Program} {ops : Array Oper} {Q : Exit → Act → World → Prop} {l : List Oper} {a : Act} {w : World} (hF : Mem.Wide F) (hd : l.all noDefer = true)
    (h : ∀ K : Act → World → Prop, (∀ a w, Q .normal a w → K a w) → wpList P ops (Only K) l a w) : wpListIn F n P ops Q l a w := list_in hF (fun _ _ h => h) l hd a w (h _ fun _ _ h => h)
/-- A thing that is only read. -/
def shr (A : Asn) : Asn where
  sh := true
  at_ := A.at_
  loc := A.loc
  lt := A.lt
end Go.Proofs.YtemgonomenjjaaaGreatDoor
/- The walks of a log's Batches, of its iterator, and of the law's listed. -/
namespace Go.Proofs.YtemgonomenjjaaaGreatDoor
open Go Go.RowKit Reg Mem

set_option maxRecDepth 100000 in
/-- slices.Clone. -/
theorem clone_Bat {ad : Option Addr} {n c : Nat} {xs : List _} (w : World) (F : Nat → Prop) (h : (Sl true BatV.cells 8 (.slice ad n c) xs).at_ w F) (hn : xs.length ≤ 4294967296) :
    Calls Tryz.prog 62 #[.slice ad n c] w fun e w' => ∃ ad' c', e = .returned (.slice ad' xs.length c') ∧ (0 < xs.length → ∃ R, ad' = some ⟨R, 0, none⟩) ∧ St (fun _ => False) w w' [Mem.Own 54 BatV.cells 8 (.slice ad' xs.length c') xs] := by
  have S : St (fun _ => False) w w [Sl true BatV.cells 8 (.slice ad n c) xs] := (St.init _ w).share rfl rfl h
  have hq : ∀ (w : World) (a : Option Addr) (n c n' c' : Nat), (binOp .eql 44 (.slice a n c) (.slice none n' c')).run Tryz.prog w = .ok (.bool a.isNone) w := fun w a n c n' c' => Lib.run_eql_slice_nil w _ _ a n c n' c' Tryz.underlying44
  cases ad with
  | none =>
    have hx : xs = [] := by
      obtain ⟨a, c', e, h1, h2, _⟩ := h.1
      simp only [Value.slice.injEq] at e
      obtain ⟨rfl, rfl, rfl⟩ := e
      exact List.eq_nil_of_length_eq_zero (by have := h2 rfl; omega)
    subst hx
    go_enter Tryz.func62, Tryz.ntmps62
    go_wp2_with first | ((with_reducible refine tot_done ?ht ?_); (case ht => kernel_rfl))
    go_ret
    exact ⟨_, _, rfl, fun h => absurd h (by simp), ((S.nil 54 BatV.cells 8).pick [0] rfl)⟩
  | some a0 =>
    go_enter Tryz.func62, Tryz.ntmps62
    go_wp2_with first | ((with_reducible apply wps_build0 (T := 44) (E := 54) BatV.cells 8 S); (case hr => intro w; kernel_rfl); clear S; intro bz wz S) | ((with_reducible apply wps_appends elem_Bat bvcells bvone (by decide) S 0 (j := 1)); (case hx | hy | hi | hj => rfl); (case hl => first | omega | (simp; omega)); clear S; intro az nz cz wz hnz S; simp only [List.set_cons_zero] at S)
    go_ret
    obtain rfl : nz = xs.length := by have := hnz.out; simp at this; omega
    simp only [List.nil_append] at S
    refine ⟨_, _, rfl, fun h0 => ?_, S.pick [0] rfl⟩
    obtain ⟨F, hF⟩ := S.get (i := 0) rfl
    rcases hF.1.2 with ⟨_, e⟩ | ⟨g, cap, cur, e, _⟩
    · omega
    · simp only [Value.slice.injEq] at e; exact ⟨g, e.1⟩
set_option maxRecDepth 100000 in
theorem lbats_calls (X : Nat) (c0 v1 tv v2 : Value) (l : List BatV) (w : World) (F F2 : Nat → Prop) (h : (Blk true X #[c0, v1, tv, v2] 80).at_ w F) (h2 : (Sl true BatV.cells 8 v2 l).at_ w F2) (hn : l.length ≤ 65536) :
    Calls Tryz.prog 38 #[.pointer (some ⟨X, 0, none⟩)] w fun e w' => ∃ b ad c, e = .returned (.func (.func 63) #[] #[.pointer (some ⟨b, 0, none⟩)]) ∧ St (fun _ => False) w w' [Blk false b #[.slice ad l.length c] 44, Mem.Own 54 BatV.cells 8 (.slice ad l.length c) l] := by
  have S : St (fun _ => False) w w [Sl true BatV.cells 8 v2 l, Blk true X #[c0, v1, tv, v2] 80] := ((St.init _ w).share rfl rfl h).share rfl rfl h2
  obtain ⟨ad, cp, rfl, _⟩ := (S.sl 0 rfl).elim fun _ h => h.form
  clear h h2
  have hn2 : l.length ≤ 4294967296 := by omega
  go_enter Tryz.func38, Tryz.ntmps38
  go_wp2_with first | (go_at_call 62; refine Calls.mono (clone_Bat _ _ (S.get (i := 1) rfl).choose_spec hn2) ?_; rintro e wz ⟨ad1, c1, rfl, _, T⟩; replace S := S.join T rfl; clear T; simp only [List.cons_append, List.nil_append] at S) | ((with_reducible apply wps_store (u := (.slice ad1 l.length c1)) S 1); (case hx | hy | hi | h1 => rfl); (case hn => exact Nat.le_of_ble_eq_true rfl); (case hT => decide +kernel); clear S; intro wz S; simp only [List.set_cons_succ, List.set_cons_zero, List.setIfInBounds_toArray] at S) | ((with_reducible apply wps_alloc1 (E := 44) S); (case hz => exact Tryz.zeroValue44); (case h1 => rfl); clear S; intro bz wz S) | ((with_reducible apply wps_load S 2); (case hx | hi | hu => rfl); (case hT => decide +kernel))
  go_ret
  exact ⟨_, _, _, rfl, S.pick [1, 0] rfl⟩
theorem Mem.St.dropThird {G : Nat → Prop} {w0 w : World} {L : List Asn} {A B X : Asn} (S : St G w0 w (A :: B :: X :: L)) : St G w0 w (A :: B :: L) := by
  refine S.sub (fun i => if i < 2 then i else i + 1) (fun i j _ _ h => ?_) (fun i C hi => ?_)
  · split at h <;> split at h <;> omega
  · match i with
    | 0 => exact hi
    | 1 => exact hi
    | i + 2 =>
      show (A :: B :: X :: L)[if i + 2 < 2 then i + 2 else i + 2 + 1]? = _
      rw [if_neg (by omega)]
      exact hi
/-- What is handed over in a round. -/
def MadeB (b : BatE) (args : Array Value) (N : List Asn) : Prop := ∃ ai ci ao co, args = #[.agg #[.int .i64 b.at_, .int .i64 b.lp, .slice ai b.ins.length ci, .int .i64 b.thn.n0, .int .i64 b.thn.n1, .int .i64 b.thn.n2, .int .i64 b.thn.n3, .slice ao b.sent.length co]] ∧
  N = [Mem.Own 78 Event.cells 7 (.slice ai b.ins.length ci) b.ins, Mem.Own 78 Event.cells 7 (.slice ao b.sent.length co) b.sent]
def LbRel (b : Nat) (ad : Option Addr) (cp : Nat) (l : List BatV) (G : Nat → Prop) (w0 : World) (Φ : Nat → List Asn → Prop) (i : Value) (wr : World) : Prop :=
  ∃ (k : Nat) (L : List Asn), k ≤ l.length ∧ i = .int .i64 k ∧ Φ k L ∧ St G w0 wr (Blk true b #[.slice ad l.length cp] 44 :: Sl true BatV.cells 8 (.slice ad l.length cp) l :: Sls true Event.cells 7 (l.map BatV.vi) (l.map fun x : BatV => x.b.ins) :: Sls true Event.cells 7 (l.map BatV.vo) (l.map fun x : BatV => x.b.sent) :: L)
theorem sls_el9 {α : Type} {sh : Bool} {enc : α → List Value} {k : Nat} {vs : List Value} {xss : List (List α)} {w : World} {F : Nat → Prop} (h : (Sls sh enc k vs xss).at_ w F) {j : Nat} {v : Value} {xs : List α} (hv : vs[j]? = some v) (hx : xss[j]? = some xs) : (Sl true enc k v xs).at_ w F :=
  ⟨h.1.2 j v xs hv hx, h.2⟩
set_option maxRecDepth 100000 in
set_option maxHeartbeats 8000000 in
theorem lbats1_iter (b : Nat) (ad : Option Addr) (cp : Nat) (l : List BatV) (hn : l.length ≤ 65536) (hs : ∀ x ∈ l, x.b.ins.length ≤ 4294967296 ∧ x.b.sent.length ≤ 4294967296) :
    IterC Tryz.prog 63 #[.pointer (some ⟨b, 0, none⟩)] [Blk true b #[.slice ad l.length cp] 44, Sl true BatV.cells 8 (.slice ad l.length cp) l, Sls true Event.cells 7 (l.map BatV.vi) (l.map fun x : BatV => x.b.ins), Sls true Event.cells 7 (l.map BatV.vo) (l.map fun x : BatV => x.b.sent)] (l.map (·.b)) MadeB := by
  intro y G w0 W Φ Ψ L hY h0 S
  simp only [List.cons_append, List.nil_append] at S
  show Calls Tryz.prog 63 #[.func (.yield y) #[] #[], .pointer (some ⟨b, 0, none⟩)] W _
  have HS := Lib.hid hs
  clear hs
  have HY := Lib.hid hY
  clear hY
  go_enter Tryz.func63, Tryz.ntmps63
  go_wp2_with first | ((with_reducible apply wps_load S 0); (case hx | hi | hu => rfl); (case hT => decide +kernel))
  go_loopw [7] (fun i wr => LbRel b ad cp l G w0 Φ i wr) (fun i _ => l.length - (intOf i).toNat)
  case atStart => exact ⟨0, L, Nat.zero_le _, rfl, h0, S⟩
  case round =>
    clear S h0
    obtain ⟨k, L, hk, rfl, hΦ, S⟩ := hrel
    by_cases hlt : k < l.length
    · obtain ⟨x, hx⟩ : ∃ x, l[k]? = some x := ⟨_, List.getElem?_eq_getElem hlt⟩
      obtain ⟨R, o, rfl⟩ : ∃ R o, ad = some ⟨R, o, none⟩ := (S.sl 1 rfl).elim fun F h => h.head (by omega)
      have hlt2 : (k : Int) < l.length := by omega
      have hs1 := (HS.out x (List.mem_of_getElem? hx)).1
      have hs2 := (HS.out x (List.mem_of_getElem? hx)).2
      have HVI : Hid ((l.map BatV.vi)[k]? = some x.vi) := Lib.hid (by rw [List.getElem?_map, hx]; rfl)
      have HVB : Hid ((l.map fun x : BatV => x.b.ins)[k]? = some x.b.ins) := Lib.hid (by rw [List.getElem?_map, hx]; rfl)
      have HVO : Hid ((l.map BatV.vo)[k]? = some x.vo) := Lib.hid (by rw [List.getElem?_map, hx]; rfl)
      have HVS : Hid ((l.map fun x : BatV => x.b.sent)[k]? = some x.b.sent) := Lib.hid (by rw [List.getElem?_map, hx]; rfl)
      have HXB : Hid ((l.map (·.b))[k]? = some x.b) := Lib.hid (by rw [List.getElem?_map, hx]; rfl)
      have Hx := Lib.hid hx
      have HΦ := Lib.hid hΦ
      clear hx hΦ
      go_upto_region 3 with first | ((with_reducible apply wps_loada_el S 1 (hj := Hx.out) (q := 0) (vs := [.int .i64 x.b.at_, .int .i64 x.b.lp, x.vi, .int .i64 x.b.thn.n0, .int .i64 x.b.thn.n1, .int .i64 x.b.thn.n2, .int .i64 x.b.thn.n3, x.vo]) (m := 8)); (case hx | hi => rfl); (case hn => omega); (case hm | hv => rfl); (case hT => decide +kernel)) | ((with_reducible apply wps_storea (T := 54) S 0 (vs := [.int .i64 x.b.at_, .int .i64 x.b.lp, .slice x.ai x.b.ins.length x.ci, .int .i64 x.b.thn.n0, .int .i64 x.b.thn.n1, .int .i64 x.b.thn.n2, .int .i64 x.b.thn.n3, .slice x.ao x.b.sent.length x.co]) (m := 8)); (case hx | hy | hi | hm | h1 => rfl); (case hn => exact Nat.le_of_ble_eq_true rfl); (case hT => decide +kernel); clear S; intro wz S; simp only [List.set_cons_zero, List.set_cons_succ, setAll, List.setIfInBounds_toArray] at S) | ((with_reducible apply wps_alloca (E := 54) S); (case hz => exact Tryz.zeroValue54); clear S; intro bz wz S)
      refine wp_region_yl 3 rfl rfl rfl fun K hK => ?_
      simp only [List.take_succ_cons, List.take_zero]
      simp only [List.drop_succ_cons, List.drop_zero] at hK
      go_wp2_with first | ((with_reducible apply wps_loada (T := 54) (k := 8) S 0); (case hx | hi => rfl); (case hk => exact Nat.le_of_ble_eq_true rfl); (case hT => decide +kernel)) | (go_at_call 33; refine Calls.mono (lown_calls x _ _ _ (sls_el9 (S.get (i := 3) rfl).choose_spec HVI.out HVB.out) (sls_el9 (S.get (i := 4) rfl).choose_spec HVO.out HVS.out) hs1 hs2) ?_; rintro e wz ⟨ai, ci, ao2, co2, rfl, T⟩; replace S := S.join T rfl; clear T; simp only [List.cons_append, List.nil_append] at S)
      refine hK _ _ ?_
      clear hK K
      (try simp only [Act.put]); (try simp only [List.setIfInBounds_toArray]); (try simp only [List.set_cons_succ]); (try simp only [List.set_cons_zero])
      refine yield_in (l := y) rfl rfl rfl rfl rfl (HY.out k x.b _ [Mem.Own 78 Event.cells 7 (.slice ai x.b.ins.length ci) x.b.ins, Mem.Own 78 Event.cells 7 (.slice ao2 x.b.sent.length co2) x.b.sent] L _ HXB.out ⟨ai, ci, ao2, co2, rfl, rfl⟩ HΦ.out S.dropThird) ?_
      rintro e w' ⟨L', S, (⟨rfl, hΦ'⟩ | ⟨rfl, hΨ⟩)⟩
      · refine ⟨_, rfl, ?_⟩
        refine list_only rfl fun K hK => ?_
        go_wp2_with first | ((with_reducible apply wps_loada (T := 54) (k := 8) S 0); (case hx | hi => rfl); (case hk => exact Nat.le_of_ble_eq_true rfl); (case hT => decide +kernel))
        refine hK _ _ ?_
        clear hK K
        have HΦ' := Lib.hid hΦ'
        clear hΦ'
        go_wp2_with first | ((with_reducible apply wps_loada (T := 54) (k := 8) S 0); (case hx | hi => rfl); (case hk => exact Nat.le_of_ble_eq_true rfl); (case hT => decide +kernel))
        go_roundw
        case rel => exact ⟨k + 1, L', by omega, by go_num, HΦ'.out, S⟩
        case measure => first | (simp [intOf]; done) | (simp [intOf]; omega)
      · refine ⟨_, rfl, ?_⟩
        refine list_only rfl fun K hK => ?_
        go_wp2_with first | ((with_reducible apply wps_loada (T := 54) (k := 8) S 0); (case hx | hi => rfl); (case hk => exact Nat.le_of_ble_eq_true rfl); (case hT => decide +kernel))
        refine hK _ _ ?_
        clear hK K
        have HΨ := Lib.hid hΨ
        clear hΨ
        go_wp2_with first | ((with_reducible apply wps_loada (T := 54) (k := 8) S 0); (case hx | hi => rfl); (case hk => exact Nat.le_of_ble_eq_true rfl); (case hT => decide +kernel))
        (try simp only [Exit.inBlock, Exit.then]); refine bodyPost_ret (results_none rfl _ _ _) rfl ?_
        exact ⟨⟨_, rfl⟩, L', S, .inr ⟨k + 1, by rw [List.length_map]; omega, HΨ.out⟩⟩
    · obtain rfl : k = l.length := by omega
      go_wp2_with first | ((with_reducible apply wps_loada (T := 54) (k := 8) S 0); (case hx | hi => rfl); (case hk => exact Nat.le_of_ble_eq_true rfl); (case hT => decide +kernel))
      go_end0
      exact ⟨⟨_, rfl⟩, L, S, .inl (by rw [List.length_map]; exact hΦ)⟩
theorem wpIn_seq_n9 {F : Fence} {n : Nat} {P : Program} {Q : Exit → Act → World → Prop} {x y : Code} {a : Act} {w : World} (h : ∀ K : Act → World → Prop, (∀ a w, y.wpIn F n P Q a w → K a w) → x.wpIn F n P (Exit.then K Q) a w) : (Code.seq x y).wpIn F n P Q a w := wpIn_seq (h _ fun _ _ h => h)
theorem zip_one9 (p : Tmp) (v : Value) (t : Array Value) : (#[p].zip #[v]).foldl (fun t (p, v) => t.setIfInBounds p v) t = t.setIfInBounds p v := by simp
def LiPhi (b3 : Nat) (done : List BatE) (j : Nat) (L : List Asn) : Prop :=
  ∃ (lo : List BatV) (ov : Value), Hid (lo.map (·.b) = done.take j) ∧ L = [Blk false b3 #[ov] 44, Mem.Own 54 BatV.cells 8 ov lo, Sls false Event.cells 7 (lo.map BatV.vi) (lo.map fun x : BatV => x.b.ins), Sls false Event.cells 7 (lo.map BatV.vo) (lo.map fun x : BatV => x.b.sent)]
def ListedPost (done : List BatE) (w : World) (e : Ending) (w' : World) : Prop :=
  ∃ a cp lo, e = .returned (.slice a done.length cp) ∧ lo.map (·.b) = done ∧
    St (fun _ => False) w w' [Mem.Own 54 BatV.cells 8 (.slice a done.length cp) lo, Sls false Event.cells 7 (lo.map BatV.vi) (lo.map fun x : BatV => x.b.ins), Sls false Event.cells 7 (lo.map BatV.vo) (lo.map fun x : BatV => x.b.sent)]
set_option maxRecDepth 100000 in
set_option maxHeartbeats 8000000 in
theorem listed_calls (X R : Nat) (g : LogE) (w : World) (F : Nat → Prop) (h : (logA X R g).at_ w F) (hn : g.done.length ≤ 300) (hs : ∀ b ∈ g.done, b.ins.length ≤ 4294967296 ∧ b.sent.length ≤ 4294967296) :
    Calls Tryz.prog 19 #[.pointer (some ⟨X, 0, none⟩)] w (ListedPost g.done w) := by
  obtain ⟨v1, v2, l, hl, S⟩ := logR_st h
  clear h
  have hln : l.length ≤ 300 := by rw [← hl, List.length_map] at hn; exact hn
  have hls : ∀ x ∈ l, x.b.ins.length ≤ 4294967296 ∧ x.b.sent.length ≤ 4294967296 := fun x hx => hs x.b (by rw [← hl]; exact List.mem_map.2 ⟨x, hx, rfl⟩)
  generalize g.done = done at *
  have HL := Lib.hid hl
  have HLS := Lib.hid hls
  clear hl hls hs hn
  have hq : ∀ (w : World) (b : Nat), (binOp .eql 95 (.func (.func 63) #[] #[.pointer (some ⟨b, 0, none⟩)]) .nilFunc).run Tryz.prog w = .ok (.bool false) w := fun w b => run_eql_func_nil w _ _ _ Tryz.underlying95
  refine calls_marks Tryz.func19 rfl ?_
  simp only [Tryz.ntmps19, List.size_toArray, List.length_cons, List.length_nil, Nat.reduceAdd, Nat.reduceSub, Array.replicate_succ, Array.replicate_zero, List.push_toArray, List.append_toArray, List.nil_append, List.cons_append]
  go_wp2_with first | ((with_reducible apply wps_alloc1 (E := 44) S); (case hz => exact Tryz.zeroValue44); (case h1 => rfl); clear S; intro b3 wz S) | (go_at_call 38; refine Calls.mono (lbats_calls X _ _ _ _ l _ _ _ (S.get (i := 5) rfl).choose_spec (S.get (i := 3) rfl).choose_spec (by omega)) ?_; rintro e wz ⟨bt, ad2, c2, rfl, T⟩; replace S := S.join T rfl; clear T; simp only [List.cons_append, List.nil_append] at S)
  replace S := S.freeze true 1 bvcells rfl
  replace S := S.weak (i := 0) (A' := Blk true bt #[.slice ad2 l.length c2] 44) rfl (fun e => by cases e) (fun F h => ⟨F, fun _ hb => hb, h⟩)
  simp only [List.set_cons_zero, List.set_cons_succ] at S
  replace S := (((S.pick [0, 1, 3, 4, 2] rfl).slsNil Event.cells 7).slsNil Event.cells 7).nil 54 BatV.cells 8
  replace S := S.pick [3, 4, 5, 6, 7, 0, 1, 2] rfl
  simp only [pick, nth] at S
  refine wps_range (lbats1_iter bt ad2 c2 l (by omega) HLS.out) S rfl (calls_enter Tryz.func63 (by kernel_rfl) rfl) (LiPhi b3 (l.map (·.b))) (fun _ _ _ => False) ⟨[], _, rfl, rfl⟩ (fun x args N h => by obtain ⟨_, _, _, _, rfl, _⟩ := h; rfl) ?round ?done ?stop
  case stop => intro _ _ _ _ _ _ h; exact h.elim
  case round =>
    rintro lp2 D r j x args N L W hx ⟨ai, ci, ao, co, rfl, rfl⟩ ⟨lo, ov, HO, rfl⟩ S
    simp only [zip_one9, List.setIfInBounds_toArray, List.set_cons_succ, List.set_cons_zero, List.cons_append, List.nil_append] at S ⊢
    obtain ⟨a3, c3, rfl, _⟩ := (S.ownsl bvcells 7 rfl).elim fun _ h => h.form
    have hjl : j < l.length := by have := (List.getElem?_eq_some_iff.1 hx).1; rwa [List.length_map] at this
    have hlo : lo.length ≤ 300 := by have := congrArg List.length HO.out; rw [List.length_map, List.length_take] at this; omega
    have HLO : Hid (lo.length = j) := Lib.hid (by have := congrArg List.length HO.out; rw [List.length_map, List.length_take, List.length_map] at this; omega)
    have hlo2 : lo.length < 4294967296 := by omega
    have hlo3 : (lo.length : Int) + 1 ≤ 300 := by have := HLO.out; omega
    have HO2 : Hid ((lo ++ [(⟨x, ai, ci, ao, co⟩ : BatV)]).map (·.b) = (l.map (·.b)).take (j + 1)) := Lib.hid (by rw [List.map_append, HO.out, take_snoc hx]; rfl)
    clear hx
    gi_wp2_with first
      | (refine wpi_at (.inr ⟨_, rfl⟩) rfl fun K hK => ?_
         go_wp2_with first | ((with_reducible apply wps_alloca (E := 54) S); (case hz => exact Tryz.zeroValue54); clear S; intro b5 wz S) | ((with_reducible apply wps_storea (T := 54) S 0 (vs := [.int .i64 x.at_, .int .i64 x.lp, .slice ai x.ins.length ci, .int .i64 x.thn.n0, .int .i64 x.thn.n1, .int .i64 x.thn.n2, .int .i64 x.thn.n3, .slice ao x.sent.length co]) (m := 8)); (case hx | hy | hi | hm | h1 => rfl); (case hn => exact Nat.le_of_ble_eq_true rfl); (case hT => decide +kernel); clear S; intro wz S; simp only [List.set_cons_zero, List.set_cons_succ, setAll, List.setIfInBounds_toArray] at S)
         refine hK _ _ ?_
         (try simp only [Act.put]); (try simp only [List.setIfInBounds_toArray]); (try simp only [List.set_cons_succ]); (try simp only [List.set_cons_zero])
         clear hK K)
    refine ⟨_, S.lastSplit rfl, fun r' W2 S => ?_⟩
    simp only [List.dropLast, List.cons_append, List.nil_append] at S
    refine wpIn_block (wpIn_seq_n9 fun K hK => wpi_list_k (.inr ⟨_, rfl⟩) rfl fun K2 hK2 => ?_)
    go_wp2_with first | ((with_reducible apply wps_load S 7); (case hx | hi | hu => rfl); (case hT => decide +kernel)) | ((with_reducible apply wps_loada (T := 54) (k := 8) S 0); (case hx | hi => rfl); (case hk => exact Nat.le_of_ble_eq_true rfl); (case hT => decide +kernel)) | ((with_reducible apply wps_build1a (T := 44) (E := 54) S); (case hx => rfl); (case hr => intro w; kernel_rfl); clear S; intro bz wz S) | ((with_reducible apply wps_append1 elem_Bat bvcells bvone (by decide) S 9 (j := 0) (e := (⟨x, ai, ci, ao, co⟩ : BatV))); (case hx | hy | hi | hj | he => rfl); (case hl => omega); clear S; intro az nz cz wz hnz S; simp only [List.set_cons_succ, List.set_cons_zero] at S) | ((with_reducible apply wps_store (u := (.slice az nz cz)) S 8); (case hx | hy | hi | h1 => rfl); (case hn => exact Nat.le_of_ble_eq_true rfl); (case hT => decide +kernel); clear S; intro wz S; simp only [List.set_cons_succ, List.set_cons_zero, List.setIfInBounds_toArray] at S)
    have hz3 : ¬ ((300 : Int) < (nz : Int)) := by have h1 := hnz.out; first | omega | (simp at h1; omega)
    have hz4 : decide ((300 : Int) < (nz : Int)) = false := decide_eq_false hz3
    refine hK2 _ _ (hK _ _ ?_)
    clear hK hK2 K K2 hz3
    refine wpIn_seq_n9 fun K1 hK1 => wpi_list_k (.inr ⟨_, rfl⟩) rfl fun K2 hK2 => ?_
    go_wp2_with first | ((with_reducible apply wps_load S 8); (case hx | hi | hu => rfl); (case hT => decide +kernel))
    refine hK2 _ _ (hK1 _ _ ?_)
    clear hK1 hK2 K1 K2
    refine wpIn_cond_false rfl (wpIn_skip ?_)
    have S2 := S.pick [2, 10, 3, 11, 4, 5, 6, 7, 8, 9, 12] rfl
    simp only [pick, nth] at S2
    have S3 := S2.freeze false 0 ecells rfl
    simp only [List.set_cons_zero] at S3
    have S4 := S3.slsSnoc.pick [1, 2, 0, 3, 4, 5, 6, 7, 8, 9] rfl
    simp only [pick, nth] at S4
    have S5 := S4.freeze false 0 ecells rfl
    simp only [List.set_cons_zero] at S5
    have S6 := S5.slsSnoc.pick [2, 3, 4, 5, 6, 7, 1, 0, 8] rfl
    simp only [pick, nth] at S6
    refine ⟨[Blk false b3 #[.slice az nz cz] 44, Mem.Own 54 BatV.cells 8 (.slice az nz cz) (lo ++ [⟨x, ai, ci, ao, co⟩]), Sls false Event.cells 7 ((lo ++ [(⟨x, ai, ci, ao, co⟩ : BatV)]).map BatV.vi) ((lo ++ [(⟨x, ai, ci, ao, co⟩ : BatV)]).map fun x : BatV => x.b.ins), Sls false Event.cells 7 ((lo ++ [(⟨x, ai, ci, ao, co⟩ : BatV)]).map BatV.vo) ((lo ++ [(⟨x, ai, ci, ao, co⟩ : BatV)]).map fun x : BatV => x.b.sent)], ⟨_, _, HO2, rfl⟩, ?_⟩
    simp only [List.map_append, List.map_cons, List.map_nil]
    exact S6
  case done =>
    rintro D W L ⟨lo, ov, HO, rfl⟩ S
    simp only [List.cons_append, List.nil_append] at S
    obtain ⟨a3, c3, rfl, _⟩ := (S.ownsl bvcells 6 rfl).elim fun _ h => h.form
    have HO2 : Hid (lo.map (·.b) = done) := Lib.hid (by rw [HO.out, List.take_length]; exact HL.out)
    have HLN : Hid (done.length = lo.length) := Lib.hid (by rw [← HO2.out, List.length_map])
    clear HO
    go_wp2_with first | ((with_reducible apply wps_load S 5); (case hx | hi | hu => rfl); (case hT => decide +kernel))
    refine leaves_ret1 S rfl fun w' S => ⟨_, results1 rfl (res_tmp rfl), a3, c3, lo, by rw [HLN.out]; rfl, HO2.out, ?_⟩
    rw [HLN.out]
    exact S.pick [5, 6, 7] rfl
end Go.Proofs.YtemgonomenjjaaaGreatDoor

import Derived.Test.YtjmecncebdbhdaaDoorR03
import Derived.RangeFuncNested
import Derived.RangeFuncBound
import Derived.RangeFuncCalls
import Derived.RangeFuncLeaves
import Derived.OrdersIn
import Derived.OwnWalkIn
import Derived.TacticsInMore
import Derived.LoopNIn
import Derived.LoopIn
import Derived.Test.YtjmecncebdbhdaaDoorR04
import Derived.RangeFuncSeq
import Derived.Test.YtjmecncebdbhdaaDoorR09
import Derived.Test.YtjmecncebdbhdaaDoorR11
/- Regions in a round of a range over a function (or in an iterator), walked as regions anywhere. Over any program. -/
namespace Go.Proofs.YtjmecncebdbhdaaDoor.Mem
open Go Go.RowKit Reg

/-- A fence that bars nothing, in a round or in none. -/
def Wide (F : Fence) : Prop := F = Fence.wide ∨ ∃ r, F = Fence.wide.inRound r
theorem Wide.fn {F : Fence} (h : Wide F) (f : FuncId) : F.fn f := by rcases h with rfl | ⟨r, rfl⟩ <;> exact trivial
theorem Wide.depth {F : Fence} (h : Wide F) : F.depth = none := by rcases h with rfl | ⟨r, rfl⟩ <;> rfl
theorem Wide.calls {F : Fence} {n : Nat} {P : Program} {f : FuncId} {args : Array Value} {w : World} {R : Ending → World → Prop} (hF : Wide F) (h : Calls P f args w R) : CallsIn F n P f args w R := by
  rcases hF with rfl | ⟨r, rfl⟩
  · exact callsIn_wide.2 h
  · exact CallsIn.inRound r (callsIn_wide.2 h)
theorem Wide.rows {F : Fence} {n : Nat} {P : Program} {row : String} {args : Array Value} {w : World} {R : Value → World → Prop} (hF : Wide F) (h : Rows P row args w R) : RowsIn F n P row args w R := by
  rcases hF with rfl | ⟨r, rfl⟩
  · intro c cs _
    obtain ⟨v, w', hR, hs⟩ := h c cs
    exact ⟨v, w', hR, stepsIn_wide.2 hs⟩
  · intro c cs _
    obtain ⟨v, w', hR, hs⟩ := h c cs
    exact ⟨v, w', hR, stepsIn_wide.2 hs⟩
/-- No other end than the plain one. -/
def Only (K : Act → World → Prop) : Exit → Act → World → Prop
  | .normal, a, w => K a w
  | _, _, _ => False
theorem only_lets {K : Act → World → Prop} : ¬ LetsOut (Only K) := fun ⟨_, _, h⟩ => h
def noDefer (o : Oper) : Bool := match o.op with | .defer _ => false | _ => true
section
variable {F : Fence} {n : Nat} {P : Program} {ops : Array Oper} {Q : Exit → Act → World → Prop} {md : Region.Mode} {K : Act → World → Prop}
theorem oper_in (hF : Wide F) {o : Oper} (hd : noDefer o = true) {a : Act} {w : World} {K' : Act → World → Prop} (h : o.wp P a w K' (Only K)) : o.wpIn F n P a w K' Q := by
  refine ⟨fun f _ => hF.fn f, ?_⟩
  have hs : o.semAt F.round a.eval = execOp a.eval o := Oper.semAt_eq _ _ _ (fun c e => by simp [noDefer, e] at hd)
  rw [hs]
  have hdp : ¬ (F.depth.isSome = true) := by rw [hF.depth]; simp
  unfold Oper.wp at h
  generalize (execOp a.eval o).run P w = r at *
  cases r with
  | ok x w' =>
    cases x <;> simp only [Oper.upon, Oper.uponIn] at h ⊢ <;>
      first
        | exact h
        | exact h.elim
        | exact ⟨fun e => (hdp e).elim, hF.calls (h.mono fun e w'' he => by cases e <;> first | exact he | exact he.elim | exact absurd he only_lets)⟩
        | exact ⟨fun e => (hdp e).elim, hF.rows h⟩
  | halt x w' => cases x <;> simp only [Oper.upon, Oper.uponIn] at h ⊢ <;> exact h.elim
theorem list_in (hF : Wide F) (hQ : ∀ a w, K a w → Q .normal a w) : ∀ (l : List Oper), l.all noDefer = true → ∀ (a : Act) (w : World), wpList P ops (Only K) l a w → wpListIn F n P ops Q l a w
  | [], _, a, w, h => hQ a w h
  | o :: rest, hd, a, w, h => by
    simp only [List.all_cons, Bool.and_eq_true] at hd
    unfold wpListIn
    unfold wpList at h
    split
    · rename_i hw
      rw [if_pos hw] at h
      rcases h with h | ⟨_, h⟩
      · exact Oper.wpIn_mono (fun a w => list_in hF hQ rest hd.2 a w) (oper_in hF hd.1 h)
      · exact absurd h only_lets
    · rename_i hw
      rw [if_neg hw] at h
      exact ⟨fun f _ => hF.fn f, list_in hF hQ rest hd.2 _ _ h⟩
/-- A region that keeps the text's order. -/
theorem wpi_list {id : Nat} {l : List Oper} {a : Act} {w : World} (hF : Wide F) (hd : l.all noDefer = true) (h : wpList P l.toArray (Only (Q .normal)) l a w) : (Code.region id l.toArray false).wpIn F n P Q a w :=
  wpIn_region_lit (list_in hF (fun _ _ h => h) l hd a w h)
end
end Go.Proofs.YtjmecncebdbhdaaDoor.Mem
/- A range over a function, in states: the iterator's contract, and the law for the statement. Over any program. -/
namespace Go.Proofs.YtjmecncebdbhdaaDoor.Mem
open Go Go.RowKit Reg

/-- A loop's record, and the block for the calls that its rounds put off. -/
def LoopA (l D : Nat) (r : Loop) : Asn where
  sh := false
  at_ := fun w F => w.heap[l]? = some (.loop r) ∧ w.heap[D]? = some (.deferred (some [])) ∧ l ≠ D ∧ ∀ b, F b ↔ b = l ∨ b = D
  loc := fun h hb => ⟨(hb _ ((h.2.2.2 _).2 (.inl rfl))).trans h.1, (hb _ ((h.2.2.2 _).2 (.inr rfl))).trans h.2.1, h.2.2⟩
  lt := fun h b hb => by
    rcases (h.2.2.2 b).1 hb with rfl | rfl
    · exact (Array.getElem?_eq_some_iff.1 h.1).1
    · exact (Array.getElem?_eq_some_iff.1 h.2.1).1
/-- The block alone. -/
def DefA (D : Nat) : Asn where
  sh := false
  at_ := fun w F => w.heap[D]? = some (.deferred (some [])) ∧ ∀ b, F b ↔ b = D
  loc := fun h hb => ⟨(hb _ ((h.2 _).2 rfl)).trans h.1, h.2⟩
  lt := fun h b hb => by obtain rfl := (h.2 b).1 hb; exact (Array.getElem?_eq_some_iff.1 h.1).1
section
variable {G : Nat → Prop} {w0 w w' : World} {L L' : List Asn} {A A' : Asn} {i : Nat}
/-- Some of the things, in another order. -/
theorem St.sub (S : St G w0 w L) (f : Nat → Nat) (hi : ∀ i j, i < L'.length → j < L'.length → f i = f j → i = j) (h : ∀ i A, L'[i]? = some A → L[f i]? = some A) : St G w0 w L' := by
  obtain ⟨Fs, hf, hd⟩ := S.ex
  refine ⟨S.keep, fun i => Fs (f i), fun i A hA => hf _ A (h i A hA), fun i j A B hij hA hB => ?_⟩
  have h1 := (List.getElem?_eq_some_iff.1 hA).1
  have h2 := (List.getElem?_eq_some_iff.1 hB).1
  rcases Nat.lt_or_gt_of_ne (fun e : f i = f j => by have := hi i j h1 h2 e; omega) with hlt | hlt
  · exact hd _ _ A B hlt (h i A hA) (h j B hB)
  · rcases hd _ _ B A hlt (h j B hB) (h i A hA) with ⟨e1, e2⟩ | e
    · exact .inl ⟨e2, e1⟩
    · exact .inr fun x hx hx' => e x hx' hx
theorem St.rot (S : St G w0 w (A :: L)) : St G w0 w (L ++ [A]) := by
  refine S.sub (fun i => if i < L.length then i + 1 else 0) (fun i j h1 h2 e => ?_) (fun i B h => ?_)
  · simp only [List.length_append, List.length_cons, List.length_nil] at h1 h2
    split at e <;> split at e <;> omega
  · have hl := (List.getElem?_eq_some_iff.1 h).1
    simp only [List.length_append, List.length_cons, List.length_nil] at hl
    split
    · rename_i hlt; rw [List.getElem?_append_left hlt] at h; simpa using h
    · obtain rfl : i = L.length := by omega
      rw [List.getElem?_append_right (Nat.le_refl _)] at h; simpa using h
theorem St.unrot (S : St G w0 w (L ++ [A])) : St G w0 w (A :: L) := by
  refine S.sub (fun i => if i = 0 then L.length else i - 1) (fun i j h1 h2 e => ?_) (fun i B h => ?_)
  · simp only [List.length_cons] at h1 h2
    split at e <;> split at e <;> omega
  · have hl := (List.getElem?_eq_some_iff.1 h).1
    simp only [List.length_cons] at hl
    split
    · subst i; simpa using h
    · obtain ⟨k, rfl⟩ : ∃ k, i = k + 1 := ⟨i - 1, by omega⟩
      simp only [Nat.add_sub_cancel, List.getElem?_cons_succ] at h ⊢
      rw [List.getElem?_append_left (by omega)]; exact h
theorem keep_putObj (w : World) (l : Nat) (o : Obj) : Keep (fun b => b = l) w (w.putObj l o) :=
  ⟨rfl, rfl, rfl, by simp, fun b _ hb => World.putObj_heap_other hb, Nat.le_refl _⟩
theorem St.loopSet {l D : Nat} {r : Loop} (S : St G w0 w (L ++ [LoopA l D r])) (r' : Loop) : St G w0 (w.putObj l (.loop r')) (L ++ [LoopA l D r']) := by
  have S1 := S.unrot
  have S2 : St G w0 (w.putObj l (.loop r')) ((LoopA l D r :: L).set 0 (LoopA l D r')) := S1.step (i := 0) rfl rfl fun F h => by
    have hl := (Array.getElem?_eq_some_iff.1 h.1).1
    exact ⟨F, (keep_putObj w l _).mono (fun x _ hn e => hn ((h.2.2.2 x).2 (.inl e))), ⟨World.putObj_heap_same hl, (World.putObj_heap_other (Ne.symm h.2.2.1)).trans h.2.1, h.2.2⟩, fun _ h => .inl h⟩
  exact St.rot S2
theorem St.loopGet {l D : Nat} {r : Loop} (S : St G w0 w (L ++ [LoopA l D r])) : w.heap[l]? = some (.loop r) := by
  obtain ⟨F, h⟩ := S.unrot.get (i := 0) rfl; exact h.1
theorem St.loopNew (S : St G w0 w L) (r : Loop) : St G w0 ((w.alloc (.deferred (some []))).alloc (.loop r)) (L ++ [LoopA (w.heap.size + 1) w.heap.size r]) := by
  refine St.rot (S.grow (F := fun b => b = w.heap.size + 1 ∨ b = w.heap.size) ((keep_alloc w _).trans (keep_alloc _ _) (fun _ _ h => ⟨h, h⟩)) ⟨?_, ?_, by omega, fun _ => Iff.rfl⟩ (fun b hb => by omega))
  · have := World.alloc_heap_new (w.alloc (.deferred (some []))) (.loop r); rwa [World.size_alloc] at this
  · exact (Below.heap_alloc _ _ _ (by simp)).trans (World.alloc_heap_new w _)
theorem St.loopEnd {l D : Nat} {r : Loop} (S : St G w0 w (L ++ [LoopA l D r])) : St G w0 w (DefA D :: L) :=
  S.unrot.weak (i := 0) rfl (fun _ => rfl) fun _ h => ⟨fun b => b = D, fun b hb => (h.2.2.2 b).2 (.inr hb), h.2.1, fun _ => Iff.rfl⟩
/-- The mark is come to. -/
theorem St.taken {D : Nat} (S : St G w0 w (DefA D :: L)) : w.heap[D]? = some (.deferred (some [])) ∧ St G w0 (w.putObj D (.deferred none)) L := by
  obtain ⟨F, h⟩ := S.get (i := 0) rfl
  refine ⟨h.1, ?_⟩
  have S2 : St G w0 (w.putObj D (.deferred none)) ((DefA D :: L).set 0 (pur True)) := S.step (i := 0) rfl rfl fun _ h =>
    ⟨fun _ => False, (keep_putObj w D _).mono (fun x _ hn e => hn ((h.2 x).2 e)), ⟨trivial, fun _ h => h⟩, fun _ h => h.elim⟩
  exact St.tail S2
end
/-- An iterator's contract: it goes through xs, and hands each one over as arguments, with new things of its own; T: what it reads, which is there in each round, and left as it was. -/
def IterC (P : Program) (gf : FuncId) (lb : Array Value) (T : List Asn) {α : Type} (xs : List α) (Made : α → Array Value → List Asn → Prop) : Prop :=
  ∀ (l : Nat) (G : Nat → Prop) (w0 W : World) (Φ Ψ : Nat → List Asn → Prop) (L : List Asn),
    (∀ (j : Nat) (x : α) (args : Array Value) (N L : List Asn) (W : World), xs[j]? = some x → Made x args N → Φ j L → St G w0 W (N ++ (T ++ L)) →
      YieldAt Fence.wide 0 P l args W fun e W' => ∃ L', St G w0 W' (T ++ L') ∧ ((e = .returned (.bool true) ∧ Φ (j + 1) L') ∨ (e = .returned (.bool false) ∧ Ψ (j + 1) L'))) →
    Φ 0 L → St G w0 W (T ++ L) →
    Calls P gf (#[.func (.yield l) #[] #[]] ++ lb) W fun e W' => (∃ v, e = .returned v) ∧ ∃ L', St G w0 W' (T ++ L') ∧ (Φ xs.length L' ∨ ∃ j, j ≤ xs.length ∧ Ψ j L')
/-- What is asked at the end of a round's body. -/
def roundQ (G : Nat → Prop) (w0 : World) (T : List Asn) (X : Asn) (Φ : List Asn → Prop) (Ψ : Code → List Asn → Prop) : Exit → Act → World → Prop
  | .normal, _, W => ∃ L, Φ L ∧ St G w0 W (T ++ (L ++ [X]))
  | .ret, _, W => ∃ L, Ψ .ret L ∧ St G w0 W (T ++ (L ++ [X]))
  | .exit id, _, W => ∃ L, Ψ (.exit id) L ∧ St G w0 W (T ++ (L ++ [X]))
  | .goto t, _, W => ∃ L, Ψ (.goto t) L ∧ St G w0 W (T ++ (L ++ [X]))
  | .panic _, _, _ => False
  | .outgrown, _, _ => False
section
variable {P : Program} {G : Nat → Prop} {w0 w : World} {L T : List Asn} {gf : FuncId} {lb : Array Value} {α : Type} {xs : List α} {Made : α → Array Value → List Asn → Prop}
  {g : Operand} {ps : Array Tmp} {assign body : Code} {Q : Exit → Act → World → Prop} {a : Act}
theorem wps_range (hI : IterC P gf lb T xs Made) (S : St G w0 w (T ++ L)) (hg : a.eval g = .func (.func gf) #[] lb) (eg : ∀ args w, (callFunc gf args).run P w = .ok (.enter gf args) w)
    (Φ : Nat → List Asn → Prop) (Ψ : Code → Nat → List Asn → Prop) (h0 : Φ 0 L) (hps : ∀ x args N, Made x args N → args.size = ps.size)
    (hround : ∀ (l D : Nat) (r : Loop) (j : Nat) (x : α) (args : Array Value) (N L : List Asn) (W : World), xs[j]? = some x → Made x args N → Φ j L → St G w0 W (N ++ (T ++ (L ++ [LoopA l D r]))) →
      assign.wpIn (Fence.wide.inRound l) 0 P (Exit.then (fun a₁ W₁ => ∃ M, St G w0 W₁ (M ++ [LoopA l D r]) ∧
        ∀ (r' : Loop) (W₂ : World), St G w0 W₂ (M ++ [LoopA l D r']) → body.wpIn (Fence.wide.inRound l) 0 P (roundQ G w0 T (LoopA l D r') (Φ (j + 1)) (fun c => Ψ c (j + 1))) a₁ W₂) (fun _ _ _ => False))
        { tmps := (ps.zip args).foldl (fun t (p, v) => t.setIfInBounds p v) a.tmps, defers := [] } W)
    (hdone : ∀ (D : Nat) (W : World) (L : List Asn), Φ xs.length L → St G w0 W (DefA D :: (T ++ L)) → Q .normal { a with defers := { target := .collected D, args := #[] } :: a.defers } W)
    (hstop : ∀ (D : Nat) (c : Code) (j : Nat) (W : World) (L : List Asn), j ≤ xs.length → Ψ c j L → St G w0 W (DefA D :: (T ++ L)) → c.wp P Q { a with defers := { target := .collected D, args := #[] } :: a.defers } W) :
    (Code.rangeFunc g ps assign body).wp P Q a w := by
  refine (wpIn_wide (n := 0)).1 (wpIn_rangeFunc fun fn _ => ?_)
  obtain ⟨rec, hrec⟩ : ∃ rec : LoopState → Option Code → Loop, rec = fun st pe => { state := st, pending := pe, fn, tmps := a.tmps, params := ps, assign, body, defers := w.heap.size } := ⟨_, rfl⟩
  have S1 := S.loopNew (rec .ready none)
  obtain ⟨l, D, hl, hD⟩ : ∃ l D, l = w.heap.size + 1 ∧ D = w.heap.size := ⟨_, _, rfl, rfl⟩
  obtain ⟨W1, hW1⟩ : ∃ W1, (w.alloc (.deferred (some []))).alloc (.loop (rec .ready none)) = W1 := ⟨_, rfl⟩
  rw [hW1, ← hl, ← hD] at S1
  refine ⟨l, [{ target := .collected D, args := #[] }], W1, { target := .fn (.func gf) lb, args := #[.func (.yield l) #[] #[]] }, W1, gf, #[.func (.yield l) #[] #[]] ++ lb, W1, ?_, ?_, fun _ _ => trivial, ?_, fun e => by simp [Fence.wide] at e, ?_⟩
  · rw [← hW1, hrec, hl, hD]; exact run_enterLoop_outer _ _ _ _ _
  · simp only [resolve, hg]; simp [go_sem]
  · simp [invoke, go_sem, eg]
  refine callsIn_wide.2 ((hI l G w0 W1 (fun j M => ∃ L, M = L ++ [LoopA l D (rec .ready none)] ∧ Φ j L) (fun j M => ∃ c L, M = L ++ [LoopA l D (rec .done (some c))] ∧ Ψ c j L) (L ++ [LoopA l D (rec .ready none)]) ?_ ⟨L, rfl, h0⟩ (by rw [← List.append_assoc]; exact S1)).mono ?_)
  · rintro j x args N _ W hx hm ⟨L, rfl, hp⟩ S
    have e1 : ∀ r, N ++ (T ++ (L ++ [LoopA l D r])) = (N ++ (T ++ L)) ++ [LoopA l D r] := fun r => by simp
    have hy := run_yield (P := P) (args := args) (St.loopGet (by rw [← e1]; exact S)) (by rw [hrec]; exact hps x args N hm)
    refine ⟨_, _, _, _, hy, roundIn_of_wpIn trivial ?_⟩
    rw [hrec]
    refine wpIn_mono (hround l D _ j x args N L W hx hm hp S) ?_
    rintro e a1 W2 hq
    cases e with
    | normal =>
      obtain ⟨M, S2, hb⟩ := hq
      refine ⟨_, run_beginRound S2.loopGet (by rw [hrec]), ?_⟩
      have S3 := S2.loopSet { rec .ready none with state := .busy }
      refine wpIn_mono (hb _ _ S3) ?_
      have e2 : ∀ (L : List Asn) r, T ++ (L ++ [LoopA l D r]) = (T ++ L) ++ [LoopA l D r] := fun L r => by simp
      have fin : ∀ (jump : Option Code) (L : List Asn) (W3 : World), St G w0 W3 (T ++ (L ++ [LoopA l D { rec .ready none with state := .busy }])) →
          (Instr.endRound l jump).run P W3 = .ok (.bool jump.isNone) (W3.putObj l (.loop (rec (if jump.isNone then .ready else .done) jump))) ∧ St G w0 (W3.putObj l (.loop (rec (if jump.isNone then .ready else .done) jump))) (T ++ (L ++ [LoopA l D (rec (if jump.isNone then .ready else .done) jump)])) := by
        intro jump L W3 S4
        rw [e2] at S4
        refine ⟨?_, by rw [e2]; exact S4.loopSet _⟩
        have := run_endRound (P := P) jump S4.loopGet
        rw [hrec] at this ⊢
        exact this
      rintro e a3 W3 hp3
      cases e with
      | normal =>
        obtain ⟨L3, hp3, S4⟩ := hp3
        obtain ⟨hr, S5⟩ := fin none L3 W3 S4
        exact ⟨_, _, hr, _, S5, .inl ⟨rfl, L3, by rw [hrec]; rfl, hp3⟩⟩
      | ret =>
        obtain ⟨L3, hp3, S4⟩ := hp3
        obtain ⟨hr, S5⟩ := fin (some .ret) L3 W3 S4
        exact ⟨_, _, hr, _, S5, .inr ⟨rfl, .ret, L3, by rw [hrec]; rfl, hp3⟩⟩
      | exit id =>
        obtain ⟨L3, hp3, S4⟩ := hp3
        obtain ⟨hr, S5⟩ := fin (some (.exit id)) L3 W3 S4
        exact ⟨_, _, hr, _, S5, .inr ⟨rfl, .exit id, L3, by rw [hrec]; rfl, hp3⟩⟩
      | goto t =>
        obtain ⟨L3, hp3, S4⟩ := hp3
        obtain ⟨hr, S5⟩ := fin (some (.goto t)) L3 W3 S4
        exact ⟨_, _, hr, _, S5, .inr ⟨rfl, .goto t, L3, by rw [hrec]; rfl, hp3⟩⟩
      | panic ch => exact hp3.elim
      | outgrown => exact hp3.elim
    | exit id => exact hq.elim
    | goto t => exact hq.elim
    | ret => exact hq.elim
    | panic ch => exact hq.elim
    | outgrown => exact hq.elim
  · rintro e W2 ⟨⟨v, rfl⟩, M, S2, ⟨L2, rfl, hp⟩ | ⟨j, hj, c, L2, rfl, hp⟩⟩
    · rw [← List.append_assoc] at S2
      exact ⟨none, _, by have := run_endLoop (P := P) S2.loopGet (by rw [hrec]; simp); rw [hrec] at this; exact this, hdone D _ L2 hp (S2.loopSet _).loopEnd⟩
    · rw [← List.append_assoc] at S2
      exact ⟨some c, _, by have := run_endLoop (P := P) S2.loopGet (by rw [hrec]; simp); rw [hrec] at this; exact this, (wpIn_wide (n := 0)).2 (hstop D c j _ L2 hj hp (S2.loopSet _).loopEnd)⟩
/-- A function whose body holds a range over a function. -/
theorem calls_marks {f : FuncId} {fn : Func} {c : Code} {args : Array Value} {w : World} {R : Ending → World → Prop} (hf : P.funcs[f]? = some fn) (hb : fn.body = some c)
    (h : c.wp P (bodyPostM Fence.wide 0 P fn R) { tmps := args ++ Array.replicate (fn.ntmps - args.size) undef, defers := [] } w) : Calls P f args w R :=
  callsIn_wide.1 (callsIn_of_wp_marks (n := 0) hf hb trivial ((wpIn_wide (n := 0)).2 h))
end
end Go.Proofs.YtjmecncebdbhdaaDoor.Mem
/- A region in the text's order that calls yield. Over any program. -/
namespace Go.Proofs.YtjmecncebdbhdaaDoor.Mem
open Go Go.RowKit Reg
section
variable {P : Program} {ops : Array Oper} {Q : Exit → Act → World → Prop} {K : Act → World → Prop}
theorem list_in_tail {F : Fence} {n : Nat} (hF : Wide F) {tl : List Oper} (hQ : ∀ a w, K a w → wpListIn F n P ops Q tl a w) : ∀ (l : List Oper), l.all noDefer = true → ∀ (a : Act) (w : World), wpList P ops (Only K) l a w → wpListIn F n P ops Q (l ++ tl) a w
  | [], _, a, w, h => hQ a w h
  | o :: rest, hd, a, w, h => by
    simp only [List.all_cons, Bool.and_eq_true] at hd
    rw [List.cons_append]
    unfold wpListIn
    unfold wpList at h
    split
    · rename_i hw
      rw [if_pos hw] at h
      rcases h with h | ⟨_, h⟩
      · exact Oper.wpIn_mono (fun a w => list_in_tail hF hQ rest hd.2 a w) (oper_in hF hd.1 h)
      · exact absurd h only_lets
    · rename_i hw
      rw [if_neg hw] at h
      exact ⟨fun f _ => hF.fn f, list_in_tail hF hQ rest hd.2 _ _ h⟩
theorem wp_region_yl {id : Nat} {l : List Oper} {a : Act} {w : World} (y : Nat) {pre tl : List Oper} (h1 : l.take y = pre) (h2 : l.drop y = tl) (hd : pre.all noDefer = true)
    (h : ∀ K : Act → World → Prop, (∀ a w, wpListIn Fence.wide 0 P l.toArray Q tl a w → K a w) → wpList P l.toArray (Only K) pre a w) : (Code.region id l.toArray false).wp P Q a w := by
  refine (wpIn_wide (n := 0)).1 (wpIn_region_lit ?_)
  have := list_in_tail (F := Fence.wide) (n := 0) (Q := Q) (.inl rfl) (fun _ _ h => h) pre hd a w (h _ fun _ _ h => h)
  rw [← h1, ← h2, List.take_append_drop] at this
  exact this
theorem yield_in {l : Nat} {o : Oper} {tl : List Oper} {x : Operand} {ars : Array Operand} {ts : Array TypeId} {d : Option Tmp} {argl : List Value} {a : Act} {w : World} {R : Ending → World → Prop}
    (ho : o.op = .call { callee := .value x, args := ars, argTypes := ts }) (hdst : o.dst = d) (hg : o.guard = none) (hx : a.eval x = .func (.yield l) #[] #[]) (has : ars.toList.map a.eval = argl) (hY : YieldAt Fence.wide 0 P l argl.toArray w R)
    (hR : ∀ e w', R e w' → ∃ v, e = .returned v ∧ wpListIn Fence.wide 0 P ops Q tl (a.put d v) w') : wpListIn Fence.wide 0 P ops Q (o :: tl) a w := by
  have has2 : ars.map a.eval = argl.toArray := by rw [← Array.toList_inj]; simpa using has
  obtain ⟨fn, tmps, assign, body, hy, hround⟩ := hY
  unfold wpListIn
  have hw : Region.wanted o (yielded ops a.tmps) = true := by unfold Region.wanted; rw [hg]
  rw [if_pos hw]
  refine ⟨fun _ _ => trivial, ?_⟩
  have hs : o.semAt Fence.wide.round a.eval = execOp a.eval o := Oper.semAt_eq _ _ _ (fun c e => by rw [ho] at e; cases e)
  rw [hs]
  have hrun : (execOp a.eval o).run P w = .ok (.round l fn tmps assign body) w := by
    obtain ⟨dst, op, type, pos, af, guard⟩ := o
    simp only at ho
    subst ho
    simp only [execOp, resolve, hx, has2]
    simp [go_sem, invoke, hy]
  rw [hrun, Oper.uponIn_round]
  refine ⟨fun e => by simp [Fence.wide] at e, hround.mono fun e w' he => ?_⟩
  obtain ⟨v, rfl, hk⟩ := hR e w' he
  rw [hdst]
  exact hk
theorem list_only {l : List Oper} {a : Act} {w : World} (hd : l.all noDefer = true) (h : ∀ K : Act → World → Prop, (∀ a w, Q .normal a w → K a w) → wpList P ops (Only K) l a w) : wpListIn Fence.wide 0 P ops Q l a w :=
  list_in (.inl rfl) (fun _ _ h => h) l hd a w (h _ fun _ _ h => h)
end
end Go.Proofs.YtjmecncebdbhdaaDoor.Mem
/- What a function whose body holds a range over a function wants beside the law. Over any program. -/
namespace Go.Proofs.YtjmecncebdbhdaaDoor
open Go Go.RowKit Reg Mem

section
variable {P : Program} {fn : Func} {R : Ending → World → Prop} {G : Nat → Prop} {w0 w : World} {L : List Asn} {a : Act} {tmps : Array Value} {r1 : ResultVar} {v1 : Value}
theorem results1 (h : fn.results = #[r1]) (h1 : ResV P w tmps r1 v1) : (results fn tmps).run P w = .ok v1 w := by
  cases r1 <;> simp only [ResV, Array.getD_eq_getD_getElem?] at h1
  · simp [results, h, h1]
  · obtain ⟨b1, p1, l1⟩ := h1; simp [results, h, p1, asAddr, l1]
theorem leaves_ret1 {D : Nat} (S : St G w0 w (DefA D :: L)) (hd : a.defers = [{ target := .collected D, args := #[] }]) (h : ∀ w', St G w0 w' L → ∃ v, (results fn a.tmps).run P w' = .ok v w' ∧ R (.returned v) w') : bodyPostM Fence.wide 0 P fn R .ret a w := by
  show LeavesInM _ _ _ _ _ _ a.defers _ _
  rw [hd]
  exact ⟨by simp, .inl ⟨D, _, rfl, run_takeDeferred S.taken.1, h _ S.taken.2⟩⟩
end
theorem run_eql_func_nil {P : Program} (w : World) {t : TypeId} {ps rs : Array TypeId} {va : Bool} (f : Fn) (ts bs : Array Value) (ht : P.underlying t = some (.func ps rs va)) : (binOp .eql t (.func f ts bs) .nilFunc).run P w = .ok (.bool false) w := by
  have h : ∀ d : Nat, (Op.equalIn (d + 1) t (.func f ts bs) .nilFunc).run P w = .ok false w := fun d => by
    simp [Op.equalIn, run_underlying ht]
  simp only [binOp]
  simp [Op.equal, Op.maxDepth, h 9999]
theorem calls_enter {P : Program} {f : FuncId} {fn : Func} {c : Code} (hf : P.funcs[f]? = some fn) (hname : (fn.name == "runtime.NumGoroutine") = false) (hb : fn.body = some c) (args : Array Value) (w : World) : (callFunc f args).run P w = .ok (.enter f args) w := by
  have h1 : fn.name ≠ "runtime.NumGoroutine" := by simpa using hname
  simp [callFunc, hf, h1, hb]
theorem Mem.St.lastSplit {G : Nat → Prop} {w0 w : World} {L : List Asn} {X : Asn} (S : St G w0 w L) (h : L.getLast? = some X) : St G w0 w (L.dropLast ++ [X]) := by
  obtain ⟨ys, rfl⟩ := List.getLast?_eq_some_iff.1 h
  simpa using S
theorem wpi_list_k {F : Fence} {n : Nat} {P : Program} {Q : Exit → Act → World → Prop} {id : Nat} {l : List Oper} {a : Act} {w : World} (hF : Mem.Wide F) (hd : l.all noDefer = true)
    (h : ∀ K : Act → World → Prop, (∀ a w, Q .normal a w → K a w) → wpList P l.toArray (Only K) l a w) : (Code.region id l.toArray false).wpIn F n P Q a w := wpi_list hF hd (h _ fun _ _ h => h)
theorem wpi_at {F : Fence} {n : Nat} {P : Program} {ops : Array Oper} {Q : Exit → Act → World → Prop} {l : List Oper} {a : Act} {w : World} (hF : Mem.Wide F) (hd : l.all noDefer = true)
    (h : ∀ K : Act → World → Prop, (∀ a w, Q .normal a w → K a w) → wpList P ops (Only K) l a w) : wpListIn F n P ops Q l a w := list_in hF (fun _ _ h => h) l hd a w (h _ fun _ _ h => h)
/-- A thing that is only read. -/
def shr (A : Asn) : Asn where
  sh := true
  at_ := A.at_
  loc := A.loc
  lt := A.lt
end Go.Proofs.YtjmecncebdbhdaaDoor

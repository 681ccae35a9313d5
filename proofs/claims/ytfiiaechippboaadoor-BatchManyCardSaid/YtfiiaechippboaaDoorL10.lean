import Derived.Test.YtfiiaechippboaaDoorL03
import Derived.RangeFuncNested
import Derived.RangeFuncBound
import Derived.RangeFuncCalls
import Derived.RangeFuncLeaves
import Derived.OrdersIn
import Derived.OwnWalkIn
import Derived.TacticsInMore
import Derived.LoopNIn
import Derived.LoopIn
import Derived.Test.YtfiiaechippboaaDoorL04
import Derived.RangeFuncSeq
import Derived.Test.YtfiiaechippboaaDoorL09
import Derived.Test.YtfiiaechippboaaDoorL15
/- Regions in a round of a range over a function (or in an iterator), walked as regions anywhere. Over any program. -/
namespace Go.Proofs.YtfiiaechippboaaDoor.Mem
open Go Go.RowKit Reg

/-- A fence that bars nothing, in a round or in none. -/
def Wide (F : Fence) : Prop := F = Fence.wide ∨ ∃ r, F = Fence.wide.inRound r
theorem Wide.fn {F : Fence} (h : Wide F) (f : FuncId) : F.fn f := by rcases h with rfl | ⟨r, rfl⟩ <;> exact trivial
theorem Wide.depth {F : Fence} (h : Wide F) : F.depth = none := by rcases h with rfl | ⟨r, rfl⟩ <;> rfl
theorem Wide.calls {F : Fence} {n : Nat} {P : Program} {f : FuncId} {args : Array Value} {w : World} {R : Ending → World → Prop} (hF : Wide F) (h : Calls P f args w R) : CallsIn F n P f args w R := by
  rcases hF with rfl | ⟨r, rfl⟩
  · exact callsIn_wide.2 h
  · exact CallsIn.inRound r (callsIn_wide.2 h)
theorem Wide.rows {F : Fence} {n : Nat} {P : Program} {row : String} {args : Array Value} {w : World} {R : Value → World → Prop} (hF : Wide F) (h : Rows P row args w R) : RowsIn F n P row args w R := by
  rcases hF with rfl | ⟨r, rfl⟩
  · intro c cs _
    obtain ⟨v, w', hR, hs⟩ := h c cs
    exact ⟨v, w', hR, stepsIn_wide.2 hs⟩
  · intro c cs _
    obtain ⟨v, w', hR, hs⟩ := h c cs
    exact ⟨v, w', hR, stepsIn_wide.2 hs⟩
/-- No other end than the plain one. -/
def Only (K : Act → World → Prop) : Exit → Act → World → Prop
  | .normal, a, w => K a w
  | _, _, _ => False
theorem only_lets {K : Act → World → Prop} : ¬ LetsOut (Only K) := fun ⟨_, _, h⟩ => h
def noDefer (o : Oper) : Bool := match o.op with | .defer _ => false | _ => true
section
variable {F : Fence} {n : Nat} {P : Program} {ops : Array Oper} {Q : Exit → Act → World → Prop} {md : Region.Mode} {K : Act → World → Prop}
theorem oper_in (hF : Wide F) {o : Oper} (hd : noDefer o = true) {a : Act} {w : World} {K' : Act → World → Prop} (h : o.wp P a w K' (Only K)) : o.wpIn F n P a w K' Q := by
  refine ⟨fun f _ => hF.fn f, ?_⟩
  have hs : o.semAt F.round a.eval = execOp a.eval o := Oper.semAt_eq _ _ _ (fun c e => by simp [noDefer, e] at hd)
  rw [hs]
  have hdp : ¬ (F.depth.isSome = true) := by rw [hF.depth]; simp
  unfold Oper.wp at h
  generalize (execOp a.eval o).run P w = r at *
  cases r with
  | ok x w' =>
    cases x <;> simp only [Oper.upon, Oper.uponIn] at h ⊢ <;>
      first
        | exact h
        | exact h.elim
        | exact ⟨fun e => (hdp e).elim, hF.calls (h.mono fun e w'' he => by cases e <;> first | exact he | exact he.elim | exact absurd he only_lets)⟩
        | exact ⟨fun e => (hdp e).elim, hF.rows h⟩
  | halt x w' => cases x <;> simp only [Oper.upon, Oper.uponIn] at h ⊢ <;> exact h.elim
theorem list_in (hF : Wide F) (hQ : ∀ a w, K a w → Q .normal a w) : ∀ (l : List Oper), l.all noDefer = true → ∀ (a : Act) (w : World), wpList P ops (Only K) l a w → wpListIn F n P ops Q l a w
  | [], _, a, w, h => hQ a w h
  | o :: rest, hd, a, w, h => by
    simp only [List.all_cons, Bool.and_eq_true] at hd
    unfold wpListIn
    unfold wpList at h
    split
    · rename_i hw
      rw [if_pos hw] at h
      rcases h with h | ⟨_, h⟩
      · exact Oper.wpIn_mono (fun a w => list_in hF hQ rest hd.2 a w) (oper_in hF hd.1 h)
      · exact absurd h only_lets
    · rename_i hw
      rw [if_neg hw] at h
      exact ⟨fun f _ => hF.fn f, list_in hF hQ rest hd.2 _ _ h⟩
/-- A region that keeps the text's order. -/
theorem wpi_list {id : Nat} {l : List Oper} {a : Act} {w : World} (hF : Wide F) (hd : l.all noDefer = true) (h : wpList P l.toArray (Only (Q .normal)) l a w) : (Code.region id l.toArray false).wpIn F n P Q a w :=
  wpIn_region_lit (list_in hF (fun _ _ h => h) l hd a w h)
end
end Go.Proofs.YtfiiaechippboaaDoor.Mem
/- A range over a function, in states: the iterator's contract, and the law for the statement. Over any program. -/
namespace Go.Proofs.YtfiiaechippboaaDoor.Mem
open Go Go.RowKit Reg

/-- A loop's record, and the block for the calls that its rounds put off. -/
def LoopA (l D : Nat) (r : Loop) : Asn where
  sh := false
  at_ := fun w F => w.heap[l]? = some (.loop r) ∧ w.heap[D]? = some (.deferred (some [])) ∧ l ≠ D ∧ ∀ b, F b ↔ b = l ∨ b = D
  loc := fun h hb => ⟨(hb _ ((h.2.2.2 _).2 (.inl rfl))).trans h.1, (hb _ ((h.2.2.2 _).2 (.inr rfl))).trans h.2.1, h.2.2⟩
  lt := fun h b hb => by
    rcases (h.2.2.2 b).1 hb with rfl | rfl
    · exact (Array.getElem?_eq_some_iff.1 h.1).1
    · exact (Array.getElem?_eq_some_iff.1 h.2.1).1
/-- The block alone. -/
def DefA (D : Nat) : Asn where
  sh := false
  at_ := fun w F => w.heap[D]? = some (.deferred (some [])) ∧ ∀ b, F b ↔ b = D
  loc := fun h hb => ⟨(hb _ ((h.2 _).2 rfl)).trans h.1, h.2⟩
  lt := fun h b hb => by obtain rfl := (h.2 b).1 hb; exact (Array.getElem?_eq_some_iff.1 h.1).1
section
variable {G : Nat → Prop} {w0 w w' : World} {L L' : List Asn} {A A' : Asn} {i : Nat}
/-- Some of the things, in another order. -/
theorem St.sub (S : St G w0 w L) (f : Nat → Nat) (hi : ∀ i j, i < L'.length → j < L'.length → f i = f j → i = j) (h : ∀ i A, L'[i]? = some A → L[f i]? = some A) : St G w0 w L' := by
  obtain ⟨Fs, hf, hd⟩ := S.ex
  refine ⟨S.keep, fun i => Fs (f i), fun i A hA => hf _ A (h i A hA), fun i j A B hij hA hB => ?_⟩
  have h1 := (List.getElem?_eq_some_iff.1 hA).1
  have h2 := (List.getElem?_eq_some_iff.1 hB).1
  rcases Nat.lt_or_gt_of_ne (fun e : f i = f j => by have := hi i j h1 h2 e; omega) with hlt | hlt
  · exact hd _ _ A B hlt (h i A hA) (h j B hB)
  · rcases hd _ _ B A hlt (h j B hB) (h i A hA) with ⟨e1, e2⟩ | e
    · exact .inl ⟨e2, e1⟩
    · exact .inr fun x hx hx' => e x hx' hx
theorem St.rot (S : St G w0 w (A :: L)) : St G w0 w (L ++ [A]) := by
  refine S.sub (fun i => if i < L.length then i + 1 else 0) (fun i j h1 h2 e => ?_) (fun i B h => ?_)
  · simp only [List.length_append, List.length_cons, List.length_nil] at h1 h2
    split at e <;> split at e <;> omega
  · have hl := (List.getElem?_eq_some_iff.1 h).1
    simp only [List.length_append, List.length_cons, List.length_nil] at hl
    split
    · rename_i hlt; rw [List.getElem?_append_left hlt] at h; simpa using h
    · obtain rfl : i = L.length := by omega
      rw [List.getElem?_append_right (Nat.le_refl _)] at h; simpa using h
theorem St.unrot (S : St G w0 w (L ++ [A])) : St G w0 w (A :: L) := by
  refine S.sub (fun i => if i = 0 then L.length else i - 1) (fun i j h1 h2 e => ?_) (fun i B h => ?_)
  · simp only [List.length_cons] at h1 h2
    split at e <;> split at e <;> omega
  · have hl := (List.getElem?_eq_some_iff.1 h).1
    simp only [List.length_cons] at hl
    split
    · subst i; simpa using h
    · obtain ⟨k, rfl⟩ : ∃ k, i = k + 1 := ⟨i - 1, by omega⟩
      simp only [Nat.add_sub_cancel, List.getElem?_cons_succ] at h ⊢
      rw [List.getElem?_append_left (by omega)]; exact h
theorem keep_putObj (w : World) (l : Nat) (o : Obj) : Keep (fun b => b = l) w (w.putObj l o) :=
  ⟨rfl, rfl, rfl, by simp, fun b _ hb => World.putObj_heap_other hb, Nat.le_refl _⟩
theorem St.loopSet {l D : Nat} {r : Loop} (S : St G w0 w (L ++ [LoopA l D r])) (r' : Loop) : St G w0 (w.putObj l (.loop r')) (L ++ [LoopA l D r']) := by
  have S1 := S.unrot
  have S2 : St G w0 (w.putObj l (.loop r')) ((LoopA l D r :: L).set 0 (LoopA l D r')) := S1.step (i := 0) rfl rfl fun F h => by
    have hl := (Array.getElem?_eq_some_iff.1 h.1).1
    exact ⟨F, (keep_putObj w l _).mono (fun x _ hn e => hn ((h.2.2.2 x).2 (.inl e))), ⟨World.putObj_heap_same hl, (World.putObj_heap_other (Ne.symm h.2.2.1)).trans h.2.1, h.2.2⟩, fun _ h => .inl h⟩
  exact St.rot S2
theorem St.loopGet {l D : Nat} {r : Loop} (S : St G w0 w (L ++ [LoopA l D r])) : w.heap[l]? = some (.loop r) := by
  obtain ⟨F, h⟩ := S.unrot.get (i := 0) rfl; exact h.1
theorem St.loopNew (S : St G w0 w L) (r : Loop) : St G w0 ((w.alloc (.deferred (some []))).alloc (.loop r)) (L ++ [LoopA (w.heap.size + 1) w.heap.size r]) := by
  refine St.rot (S.grow (F := fun b => b = w.heap.size + 1 ∨ b = w.heap.size) ((keep_alloc w _).trans (keep_alloc _ _) (fun _ _ h => ⟨h, h⟩)) ⟨?_, ?_, by omega, fun _ => Iff.rfl⟩ (fun b hb => by omega))
  · have := World.alloc_heap_new (w.alloc (.deferred (some []))) (.loop r); rwa [World.size_alloc] at this
  · exact (Below.heap_alloc _ _ _ (by simp)).trans (World.alloc_heap_new w _)
theorem St.loopEnd {l D : Nat} {r : Loop} (S : St G w0 w (L ++ [LoopA l D r])) : St G w0 w (DefA D :: L) :=
  S.unrot.weak (i := 0) rfl (fun _ => rfl) fun _ h => ⟨fun b => b = D, fun b hb => (h.2.2.2 b).2 (.inr hb), h.2.1, fun _ => Iff.rfl⟩
/-- The mark is come to. -/
theorem St.taken {D : Nat} (S : St G w0 w (DefA D :: L)) : w.heap[D]? = some (.deferred (some [])) ∧ St G w0 (w.putObj D (.deferred none)) L := by
  obtain ⟨F, h⟩ := S.get (i := 0) rfl
  refine ⟨h.1, ?_⟩
  have S2 : St G w0 (w.putObj D (.deferred none)) ((DefA D :: L).set 0 (pur True)) := S.step (i := 0) rfl rfl fun _ h =>
    ⟨fun _ => False, (keep_putObj w D _).mono (fun x _ hn e => hn ((h.2 x).2 e)), ⟨trivial, fun _ h => h⟩, fun _ h => h.elim⟩
  exact St.tail S2
end
/-- An iterator's contract: it goes through xs, and hands each one over as arguments, with new things of its own; T: what it reads, which is there in each round, and left as it was. -/
def IterC (P : Program) (gf : FuncId) (lb : Array Value) (T : List Asn) {α : Type} (xs : List α) (Made : α → Array Value → List Asn → Prop) : Prop :=
  ∀ (l : Nat) (G : Nat → Prop) (w0 W : World) (Φ Ψ : Nat → List Asn → Prop) (L : List Asn),
    (∀ (j : Nat) (x : α) (args : Array Value) (N L : List Asn) (W : World), xs[j]? = some x → Made x args N → Φ j L → St G w0 W (N ++ (T ++ L)) →
      YieldAt Fence.wide 0 P l args W fun e W' => ∃ L', St G w0 W' (T ++ L') ∧ ((e = .returned (.bool true) ∧ Φ (j + 1) L') ∨ (e = .returned (.bool false) ∧ Ψ (j + 1) L'))) →
    Φ 0 L → St G w0 W (T ++ L) →
    Calls P gf (#[.func (.yield l) #[] #[]] ++ lb) W fun e W' => (∃ v, e = .returned v) ∧ ∃ L', St G w0 W' (T ++ L') ∧ (Φ xs.length L' ∨ ∃ j, j ≤ xs.length ∧ Ψ j L')
/-- What is asked at the end of a round's body. -/
def roundQ (G : Nat → Prop) (w0 : World) (T : List Asn) (X : Asn) (Φ : List Asn → Prop) (Ψ : Code → List Asn → Prop) : Exit → Act → World → Prop
  | .normal, _, W => ∃ L, Φ L ∧ St G w0 W (T ++ (L ++ [X]))
  | .ret, _, W => ∃ L, Ψ .ret L ∧ St G w0 W (T ++ (L ++ [X]))
  | .exit id, _, W => ∃ L, Ψ (.exit id) L ∧ St G w0 W (T ++ (L ++ [X]))
  | .goto t, _, W => ∃ L, Ψ (.goto t) L ∧ St G w0 W (T ++ (L ++ [X]))
  | .panic _, _, _ => False
  | .outgrown, _, _ => False
section
variable {P : Program} {G : Nat → Prop} {w0 w : World} {L T : List Asn} {gf : FuncId} {lb : Array Value} {α : Type} {xs : List α} {Made : α → Array Value → List Asn → Prop}
  {g : Operand} {ps : Array Tmp} {assign body : Code} {Q : Exit → Act → World → Prop} {a : Act}
theorem wps_range (hI : IterC P gf lb T xs Made) (S : St G w0 w (T ++ L)) (hg : a.eval g = .func (.func gf) #[] lb) (eg : ∀ args w, (callFunc gf args).run P w = .ok (.enter gf args) w)
    (Φ : Nat → List Asn → Prop) (Ψ : Code → Nat → List Asn → Prop) (h0 : Φ 0 L) (hps : ∀ x args N, Made x args N → args.size = ps.size)
    (hround : ∀ (l D : Nat) (r : Loop) (j : Nat) (x : α) (args : Array Value) (N L : List Asn) (W : World), xs[j]? = some x → Made x args N → Φ j L → St G w0 W (N ++ (T ++ (L ++ [LoopA l D r]))) →
      assign.wpIn (Fence.wide.inRound l) 0 P (Exit.then (fun a₁ W₁ => ∃ M, St G w0 W₁ (M ++ [LoopA l D r]) ∧
        ∀ (r' : Loop) (W₂ : World), St G w0 W₂ (M ++ [LoopA l D r']) → body.wpIn (Fence.wide.inRound l) 0 P (roundQ G w0 T (LoopA l D r') (Φ (j + 1)) (fun c => Ψ c (j + 1))) a₁ W₂) (fun _ _ _ => False))
        { tmps := (ps.zip args).foldl (fun t (p, v) => t.setIfInBounds p v) a.tmps, defers := [] } W)
    (hdone : ∀ (D : Nat) (W : World) (L : List Asn), Φ xs.length L → St G w0 W (DefA D :: (T ++ L)) → Q .normal { a with defers := { target := .collected D, args := #[] } :: a.defers } W)
    (hstop : ∀ (D : Nat) (c : Code) (j : Nat) (W : World) (L : List Asn), j ≤ xs.length → Ψ c j L → St G w0 W (DefA D :: (T ++ L)) → c.wp P Q { a with defers := { target := .collected D, args := #[] } :: a.defers } W) :
    (Code.rangeFunc g ps assign body).wp P Q a w := by
  refine (wpIn_wide (n := 0)).1 (wpIn_rangeFunc fun fn _ => ?_)
  obtain ⟨rec, hrec⟩ : ∃ rec : LoopState → Option Code → Loop, rec = fun st pe => { state := st, pending := pe, fn, tmps := a.tmps, params := ps, assign, body, defers := w.heap.size } := ⟨_, rfl⟩
  have S1 := S.loopNew (rec .ready none)
  obtain ⟨l, D, hl, hD⟩ : ∃ l D, l = w.heap.size + 1 ∧ D = w.heap.size := ⟨_, _, rfl, rfl⟩
  obtain ⟨W1, hW1⟩ : ∃ W1, (w.alloc (.deferred (some []))).alloc (.loop (rec .ready none)) = W1 := ⟨_, rfl⟩
  rw [hW1, ← hl, ← hD] at S1
  refine ⟨l, [{ target := .collected D, args := #[] }], W1, { target := .fn (.func gf) lb, args := #[.func (.yield l) #[] #[]] }, W1, gf, #[.func (.yield l) #[] #[]] ++ lb, W1, ?_, ?_, fun _ _ => trivial, ?_, fun e => by simp [Fence.wide] at e, ?_⟩
  · rw [← hW1, hrec, hl, hD]; exact run_enterLoop_outer _ _ _ _ _
  · simp only [resolve, hg]; simp [go_sem]
  · simp [invoke, go_sem, eg]
  refine callsIn_wide.2 ((hI l G w0 W1 (fun j M => ∃ L, M = L ++ [LoopA l D (rec .ready none)] ∧ Φ j L) (fun j M => ∃ c L, M = L ++ [LoopA l D (rec .done (some c))] ∧ Ψ c j L) (L ++ [LoopA l D (rec .ready none)]) ?_ ⟨L, rfl, h0⟩ (by rw [← List.append_assoc]; exact S1)).mono ?_)
  · rintro j x args N _ W hx hm ⟨L, rfl, hp⟩ S
    have e1 : ∀ r, N ++ (T ++ (L ++ [LoopA l D r])) = (N ++ (T ++ L)) ++ [LoopA l D r] := fun r => by simp
    have hy := run_yield (P := P) (args := args) (St.loopGet (by rw [← e1]; exact S)) (by rw [hrec]; exact hps x args N hm)
    refine ⟨_, _, _, _, hy, roundIn_of_wpIn trivial ?_⟩
    rw [hrec]
    refine wpIn_mono (hround l D _ j x args N L W hx hm hp S) ?_
    rintro e a1 W2 hq
    cases e with
    | normal =>
      obtain ⟨M, S2, hb⟩ := hq
      refine ⟨_, run_beginRound S2.loopGet (by rw [hrec]), ?_⟩
      have S3 := S2.loopSet { rec .ready none with state := .busy }
      refine wpIn_mono (hb _ _ S3) ?_
      have e2 : ∀ (L : List Asn) r, T ++ (L ++ [LoopA l D r]) = (T ++ L) ++ [LoopA l D r] := fun L r => by simp
      have fin : ∀ (jump : Option Code) (L : List Asn) (W3 : World), St G w0 W3 (T ++ (L ++ [LoopA l D { rec .ready none with state := .busy }])) →
          (Instr.endRound l jump).run P W3 = .ok (.bool jump.isNone) (W3.putObj l (.loop (rec (if jump.isNone then .ready else .done) jump))) ∧ St G w0 (W3.putObj l (.loop (rec (if jump.isNone then .ready else .done) jump))) (T ++ (L ++ [LoopA l D (rec (if jump.isNone then .ready else .done) jump)])) := by
        intro jump L W3 S4
        rw [e2] at S4
        refine ⟨?_, by rw [e2]; exact S4.loopSet _⟩
        have := run_endRound (P := P) jump S4.loopGet
        rw [hrec] at this ⊢
        exact this
      rintro e a3 W3 hp3
      cases e with
      | normal =>
        obtain ⟨L3, hp3, S4⟩ := hp3
        obtain ⟨hr, S5⟩ := fin none L3 W3 S4
        exact ⟨_, _, hr, _, S5, .inl ⟨rfl, L3, by rw [hrec]; rfl, hp3⟩⟩
      | ret =>
        obtain ⟨L3, hp3, S4⟩ := hp3
        obtain ⟨hr, S5⟩ := fin (some .ret) L3 W3 S4
        exact ⟨_, _, hr, _, S5, .inr ⟨rfl, .ret, L3, by rw [hrec]; rfl, hp3⟩⟩
      | exit id =>
        obtain ⟨L3, hp3, S4⟩ := hp3
        obtain ⟨hr, S5⟩ := fin (some (.exit id)) L3 W3 S4
        exact ⟨_, _, hr, _, S5, .inr ⟨rfl, .exit id, L3, by rw [hrec]; rfl, hp3⟩⟩
      | goto t =>
        obtain ⟨L3, hp3, S4⟩ := hp3
        obtain ⟨hr, S5⟩ := fin (some (.goto t)) L3 W3 S4
        exact ⟨_, _, hr, _, S5, .inr ⟨rfl, .goto t, L3, by rw [hrec]; rfl, hp3⟩⟩
      | panic ch => exact hp3.elim
      | outgrown => exact hp3.elim
    | exit id => exact hq.elim
    | goto t => exact hq.elim
    | ret => exact hq.elim
    | panic ch => exact hq.elim
    | outgrown => exact hq.elim
  · rintro e W2 ⟨⟨v, rfl⟩, M, S2, ⟨L2, rfl, hp⟩ | ⟨j, hj, c, L2, rfl, hp⟩⟩
    · rw [← List.append_assoc] at S2
      exact ⟨none, _, by have := run_endLoop (P := P) S2.loopGet (by rw [hrec]; simp); rw [hrec] at this; exact this, hdone D _ L2 hp (S2.loopSet _).loopEnd⟩
    · rw [← List.append_assoc] at S2
      exact ⟨some c, _, by have := run_endLoop (P := P) S2.loopGet (by rw [hrec]; simp); rw [hrec] at this; exact this, (wpIn_wide (n := 0)).2 (hstop D c j _ L2 hj hp (S2.loopSet _).loopEnd)⟩
/-- A function whose body holds a range over a function. -/
theorem calls_marks {f : FuncId} {fn : Func} {c : Code} {args : Array Value} {w : World} {R : Ending → World → Prop} (hf : P.funcs[f]? = some fn) (hb : fn.body = some c)
    (h : c.wp P (bodyPostM Fence.wide 0 P fn R) { tmps := args ++ Array.replicate (fn.ntmps - args.size) undef, defers := [] } w) : Calls P f args w R :=
  callsIn_wide.1 (callsIn_of_wp_marks (n := 0) hf hb trivial ((wpIn_wide (n := 0)).2 h))
end
end Go.Proofs.YtfiiaechippboaaDoor.Mem
/- A region that draws its order and calls 'yield' once, behind all else that hangs on memory. Over any program. -/
namespace Go.Proofs.YtfiiaechippboaaDoor.Mem
open Go Go.RowKit Reg

def NoQ : Exit → Act → World → Prop := fun _ _ _ => False
section
variable {P : Program} {ops : Array Oper} {Q : Exit → Act → World → Prop} {y : Nat} {G : Nat → Prop} {w0 : World} {L : List Asn}
/-- As W, but that the operation y is one that asks for a round. -/
def WI (P : Program) (ops : Array Oper) (Q : Exit → Act → World → Prop) (y : Nat) (G : Nat → Prop) (w0 : World) (L : List Asn) : Nat → List Asn → Array Bool → Act → Prop
  | 0, T, listed, a => Region.ready .any ops listed = [] ∧ ∀ w, St G w0 w (L ++ T) → Q .normal a w
  | f + 1, T, listed, a => ∀ w, St G w0 w (L ++ T) → (Region.ready .any ops listed = [] → Q .normal a w) ∧
      ∀ i ∈ Region.ready .any ops listed, (i = y → wpOpIn Fence.wide 0 P ops Q i (wpAnyIn Fence.wide 0 P .any ops Q f (listed.setIfInBounds i true)) a w) ∧
        (i ≠ y → wpOp P ops (Tot [] NoQ) i (fun a' w' => ∃ T', St G w0 w' (L ++ T') ∧ WI P ops Q y G w0 L f T' (listed.setIfInBounds i true) a') a w)
theorem wpOp_in {i : Nat} {K : Act → World → Prop} {a : Act} {w : World} (hd : ∀ o, ops[i]? = some o → noDefer o = true) (h : wpOp P ops (Tot [] NoQ) i K a w) : wpOpIn Fence.wide 0 P ops Q i K a w := by
  unfold wpOp at h
  unfold wpOpIn
  cases ho : ops[i]? with
  | none => simp only [ho] at h ⊢; exact h
  | some o =>
    simp only [ho] at h ⊢
    split
    · rename_i hw
      rw [if_pos hw] at h
      rcases h with h | ⟨_, h⟩
      case inr => exact absurd h not_lets
      refine oper_in (K := fun _ _ => False) (.inl rfl) (hd o ho) ?_
      unfold Oper.wp at *
      generalize (execOp a.eval o).run P w = r at *
      cases r with
      | ok n w' =>
        cases n <;> simp only [Oper.upon] at h ⊢ <;> first | exact h | (refine Calls.mono h fun e w'' he => ?_; cases e <;> first | exact he | exact absurd he not_lets | exact (he : False).elim)
      | halt x w' => cases x <;> simp only [Oper.upon] at h ⊢ <;> exact h.elim
    · rename_i hw
      rw [if_neg hw] at h
      exact ⟨fun _ _ => trivial, h⟩
theorem WI_any (hd : ∀ i o, i ≠ y → ops[i]? = some o → noDefer o = true) : ∀ (f : Nat) (T : List Asn) (listed : Array Bool) (a : Act) (w : World), WI P ops Q y G w0 L f T listed a → St G w0 w (L ++ T) → wpAnyIn Fence.wide 0 P .any ops Q f listed a w
  | 0, _, _, _, w, h, S => ⟨h.1, h.2 w S⟩
  | f + 1, _, _, _, w, h, S => ⟨(h w S).1, fun i hi => by
      by_cases e : i = y
      · exact ((h w S).2 i hi).1 e
      · exact wpOpIn_mono (fun a' w' ⟨T', S', h'⟩ => WI_any hd f T' _ a' w' h' S') (wpOp_in (fun o => hd i o e) (((h w S).2 i hi).2 e))⟩
theorem WI_soft (hB : ordB ops = true) {i : Nat} {oi : Oper} {v : Value} (hi : ops[i]? = some oi) (hiy : i ≠ y) (hym : ((masks .any ops.toList []).getD y 0).testBit i = true) : ∀ (f : Nat) (T : List Asn) (listed : Array Bool) (a : Act), Closed .any ops listed → i ∈ Region.ready .any ops listed →
    Soft P ops NoQ G w0 L i a (a.put oi.dst v) → WI P ops Q y G w0 L f T (listed.setIfInBounds i true) (a.put oi.dst v) → WI P ops Q y G w0 L (f + 1) T listed a := by
  obtain ⟨hsel, hap⟩ := ordB_spec hB
  intro f
  induction f with
  | zero =>
    intro T listed a hcl hr hs hw w S
    refine ⟨fun h => by rw [h] at hr; (cases hr), fun j hj => ?_⟩
    by_cases hji : j = i
    · subst hji
      exact ⟨fun e => absurd e hiy, fun _ => wpOp_mono (fun a' w' ⟨e, S'⟩ => ⟨T, S', e ▸ hw⟩) (hs T w S)⟩
    · have := ready_mono hj hji
      rw [hw.1] at this
      cases this
  | succ f ih =>
    intro T listed a hcl hr hs hw w S
    refine ⟨fun h => by rw [h] at hr; (cases hr), fun j hj => ?_⟩
    by_cases hji : j = i
    · subst hji
      exact ⟨fun e => absurd e hiy, fun _ => wpOp_mono (fun a' w' ⟨e, S'⟩ => ⟨T, S', e ▸ hw⟩) (hs T w S)⟩
    · obtain ⟨hjun, oj, hoj, hall⟩ := mem_ready.1 hj
      obtain ⟨hiun, oi', hoi', halli⟩ := mem_ready.1 hr
      have e1 : ((masks .any ops.toList []).getD j 0).testBit i = false := by
        cases hb : ((masks .any ops.toList []).getD j 0).testBit i with
        | false => rfl
        | true => have := mask_listed hcl j oj hoj hall hb; rw [unlisted hiun] at this; cases this
      have e2 : ((masks .any ops.toList []).getD i 0).testBit j = false := by
        cases hb : ((masks .any ops.toList []).getD i 0).testBit j with
        | false => rfl
        | true => have := mask_listed hcl i oi' hoi' halli hb; rw [unlisted hjun] at this; cases this
      have hjy : j ≠ y := fun e => by subst e; rw [hym] at e1; cases e1
      obtain ⟨h1, h2, h3⟩ := Oper.apart_spec (hap i j oi oj (Ne.symm hji) hi hoj e1 e2)
      have H := ((hw w S).2 j (ready_mono hj hji)).2 hjy
      have H2 := (wpOp_ride (P := P) (Q := NoQ) (φ := fun b => b.put oi.dst v) (a := a) (w := w) hoj (execOp_put oj (hsel j oj hoj) a oi.dst v h1) (wanted_put oj a oi.dst v h1) (fun u => Act.put_comm a v u h2)
        (fun d u => by rw [Act.put_defers]; exact Act.put_comm _ v u h2)).1 H
      have hcl' := hcl.set hj
      have hr' := ready_mono hr (Ne.symm hji)
      have soft : ∀ (b : Act), execOp b.eval oi = execOp a.eval oi → Region.wanted oi (yielded ops b.tmps) = Region.wanted oi (yielded ops a.tmps) → b.tmps.size = a.tmps.size → Soft P ops NoQ G w0 L i b (b.put oi.dst v) :=
        fun b he hwn hsz T' w' S' => soft_ride hi he hwn hsz (hs T' w' S')
      refine ⟨fun e => absurd e hjy, fun _ => wpOp_mono (fun a' w' ⟨⟨T', S', h'⟩, hf⟩ => ⟨T', S', ih T' _ a' hcl' hr' ?_ ?_⟩) (wpOp_forms hoj H2)⟩
      · rcases hf with ⟨u, rfl⟩ | ⟨d, u, rfl⟩
        · exact soft _ (execOp_put oi (hsel i oi hi) a oj.dst u h3) (wanted_put oi a oj.dst u h3) (put_size _ _ _)
        · exact soft _ (by rw [execOp_put oi (hsel i oi hi) _ oj.dst u h3, eval_defers]) (by rw [wanted_put oi _ oj.dst u h3]) (put_size _ _ _)
      · rw [Array.setIfInBounds_comm _ _ hji]; exact h'
/-- All these come ahead of y. -/
def aheadB (ops : Array Oper) (y : Nat) (soft : List Nat) : Bool := soft.all fun i => !(i == y) && ((masks .any ops.toList []).getD y 0).testBit i
theorem WI_softs (hB : ordB ops = true) : ∀ (soft : List Nat) (f : Nat) (T : List Asn) (listed : Array Bool) (a : Act), aheadB ops y soft = true → Closed .any ops listed → readyAll ops soft listed = true →
    Softs P ops NoQ G w0 L (fun A => WI P ops Q y G w0 L f T (after soft listed) A) soft a → WI P ops Q y G w0 L (f + soft.length) T listed a
  | [], _, _, _, _, _, _, _, h => h
  | i :: l, f, T, listed, a, hy, hcl, hr, ⟨A, hs, ⟨o, ho, hA⟩, h⟩ => by
    simp only [aheadB, List.all_cons, Bool.and_eq_true, Bool.not_eq_true', beq_eq_false_iff_ne] at hy
    simp only [readyAll, Bool.and_eq_true, List.contains_iff_mem] at hr
    have := WI_softs hB l f T _ A hy.2 (hcl.set hr.1) hr.2 h
    rw [hA] at hs this
    exact WI_soft hB ho hy.1.1 hy.1.2 (f + l.length) T listed a hcl hr.1 hs this
def plainB (ops : Array Oper) (y : Nat) : Bool := (List.range ops.size).all fun i => i == y || ((ops[i]?).map noDefer).getD true
theorem wp_region_yi {id : Nat} {soft : List Nat} {a : Act} {w : World} (y : Nat) (S : St G w0 w L) (hm : P.follows .mixedOrders = true) (hB : (softB ops soft && aheadB ops y soft && plainB ops y) = true)
    (h : Softs P ops NoQ G w0 L (fun A => WI P ops Q y G w0 L (ops.size - soft.length) [] (after soft (Array.replicate ops.size false)) A) soft a) : (Code.region id ops true).wp P Q a w := by
  simp only [softB, Bool.and_eq_true] at hB
  have hc : Closed .any ops (Array.replicate ops.size false) := fun j oj _ hl => by
    rw [Array.getD_eq_getD_getElem?] at hl
    by_cases hj : j < ops.size
    · rw [Array.getElem?_replicate, if_pos hj] at hl; cases hl
    · rw [Array.getElem?_replicate, if_neg hj] at hl; cases hl
  have hle := Nat.le_of_ble_eq_true hB.1.1.2
  have hd : ∀ i o, i ≠ y → ops[i]? = some o → noDefer o = true := fun i o hi ho => by
    have := List.all_eq_true.1 hB.2 i (List.mem_range.2 (Array.getElem?_eq_some_iff.1 ho).1)
    rw [ho] at this
    simpa [hi] using this
  have := WI_softs hB.1.1.1.1 soft (ops.size - soft.length) [] _ a hB.1.2 hc hB.1.1.1.2 h
  rw [show ops.size - soft.length + soft.length = ops.size by omega] at this
  exact (wpIn_wide (n := 0)).1 (wpIn_region_any hm (WI_any hd _ [] _ a _ this (by simpa using S.ext (keep_drew w))))
theorem softsI_nil {f : Nat} {T : List Asn} {listed : Array Bool} {a : Act} (h : WI P ops Q y G w0 L f T listed a) : Softs P ops NoQ G w0 L (fun A => WI P ops Q y G w0 L f T listed A) [] a := h
theorem WI_hard1 {n f i : Nat} (hn : n = f + 1) {T : List Asn} {listed : Array Bool} {a : Act} (hr : Region.ready .any ops listed = [i]) (hiy : (i == y) = false)
    (h : ∀ w, St G w0 w (L ++ T) → wpOp P ops (Tot [] NoQ) i (fun a' w' => ∃ T', St G w0 w' (L ++ T') ∧ WI P ops Q y G w0 L f T' (listed.setIfInBounds i true) a') a w) : WI P ops Q y G w0 L n T listed a := by
  subst hn
  exact fun w S => ⟨fun e => by rw [hr] at e; (cases e), fun j hj => by rw [hr] at hj; simp at hj; subst hj; exact ⟨fun e => by rw [e] at hiy; simp at hiy, fun _ => h w S⟩⟩
theorem WI_yield {n f : Nat} (hn : n = f + 1) {T : List Asn} {listed : Array Bool} {a : Act} (hr : Region.ready .any ops listed = [y])
    (h : ∀ w, St G w0 w (L ++ T) → wpOpIn Fence.wide 0 P ops Q y (wpAnyIn Fence.wide 0 P .any ops Q f (listed.setIfInBounds y true)) a w) : WI P ops Q y G w0 L n T listed a := by
  subst hn
  exact fun w S => ⟨fun e => by rw [hr] at e; (cases e), fun j hj => by rw [hr] at hj; simp at hj; subst hj; exact ⟨fun _ => h w S, fun e => absurd rfl e⟩⟩
/-- One more operation, behind the yield. -/
theorem anyIn_one {f i : Nat} {o : Oper} {listed : Array Bool} {a : Act} {w : World} (hi : opAt ops.toList i = some o) (hr : Region.ready .any ops listed = [i]) (hd : noDefer o = true)
    (h : wpList P ops (Tot [] fun _ a' w' => wpAnyIn Fence.wide 0 P .any ops Q f (listed.setIfInBounds i true) a' w') [o] a w) : wpAnyIn Fence.wide 0 P .any ops Q (f + 1) listed a w :=
  ⟨fun e => by rw [hr] at e; (cases e), fun j hj => by
    rw [hr] at hj; simp at hj; subst hj
    exact wpOp_in (fun o' ho' => by rw [opAt_arr hi] at ho'; cases ho'; exact hd) (op_list (opAt_arr hi) h fun _ _ h => h)⟩
theorem anyIn_done {listed : Array Bool} {a : Act} {w : World} (hr : Region.ready .any ops listed = []) (h : Q .normal a w) : wpAnyIn Fence.wide 0 P .any ops Q 0 listed a w := ⟨hr, h⟩
/-- The call of yield. -/
theorem wpOpIn_yield {l : Nat} {o : Oper} {x : Operand} {ars : Array Operand} {ts : Array TypeId} {d : Option Tmp} {argl : List Value} {a : Act} {w : World} {R : Ending → World → Prop} {K : Act → World → Prop} (hi : opAt ops.toList y = some o)
    (ho : o.op = .call { callee := .value x, args := ars, argTypes := ts }) (hdst : o.dst = d) (hg : o.guard = none) (hx : a.eval x = .func (.yield l) #[] #[]) (has : ars.toList.map a.eval = argl) (hY : YieldAt Fence.wide 0 P l argl.toArray w R)
    (hR : ∀ e w', R e w' → ∃ v, e = .returned v ∧ K (a.put d v) w') : wpOpIn Fence.wide 0 P ops Q y K a w := by
  have has2 : ars.map a.eval = argl.toArray := by rw [← Array.toList_inj]; simpa using has
  obtain ⟨fn, tmps, assign, body, hy, hround⟩ := hY
  unfold wpOpIn
  simp only [opAt_arr hi]
  have hw : Region.wanted o (yielded ops a.tmps) = true := by unfold Region.wanted; rw [hg]
  rw [if_pos hw]
  refine ⟨fun _ _ => trivial, ?_⟩
  have hs : o.semAt Fence.wide.round a.eval = execOp a.eval o := Oper.semAt_eq _ _ _ (fun c e => by rw [ho] at e; cases e)
  rw [hs]
  have hrun : (execOp a.eval o).run P w = .ok (.round l fn tmps assign body) w := by
    obtain ⟨dst, op, type, pos, af, guard⟩ := o
    simp only at ho
    subst ho
    simp only [execOp, resolve, hx, has2]
    simp [go_sem, invoke, hy]
  rw [hrun, Oper.uponIn_round]
  refine ⟨fun e => by simp [Fence.wide] at e, hround.mono fun e w' he => ?_⟩
  obtain ⟨v, rfl, hk⟩ := hR e w' he
  rw [hdst]
  exact hk
def HardQI (P : Program) (ops : Array Oper) (Q : Exit → Act → World → Prop) (y : Nat) (G : Nat → Prop) (w0 : World) (L : List Asn) (f : Nat) (listed : Array Bool) : Exit → Act → World → Prop := fun _ a' w' => ∃ T', St G w0 w' (L ++ T') ∧ WI P ops Q y G w0 L f T' listed a'
theorem hardI_of {i f : Nat} {o : Oper} {a : Act} {w : World} {listed : Array Bool} (hi : opAt ops.toList i = some o) (h : wpList P ops (Tot [] (HardQI P ops Q y G w0 L f listed)) [o] a w) :
    wpOp P ops (Tot [] NoQ) i (fun a' w' => ∃ T', St G w0 w' (L ++ T') ∧ WI P ops Q y G w0 L f T' listed a') a w := op_list (opAt_arr hi) h fun _ _ h => h
end
end Go.Proofs.YtfiiaechippboaaDoor.Mem
/- The walks of keys.Batches and of the iterator that it hands back. -/
namespace Go.Proofs.YtfiiaechippboaaDoor
open Go Go.RowKit Reg Mem

/-- Events in order, parted by their times. -/
def batchesE : List Event → List (List Event)
  | [] => []
  | x :: l => (x :: l.takeWhile (fun y => y.key.at_ == x.key.at_)) :: batchesE (l.dropWhile (fun y => y.key.at_ == x.key.at_))
termination_by l => l.length
decreasing_by
  have : (l.dropWhile (fun y => y.key.at_ == x.key.at_)).length ≤ l.length := (List.dropWhile_sublist _).length_le
  simp; omega
theorem tw_split {p : Event → Bool} : ∀ {l : List Event} {n : Nat}, n ≤ l.length → (∀ (q : Nat) y, q < n → l[q]? = some y → p y = true) → (∀ y, l[n]? = some y → p y = false) → l.takeWhile p = l.take n ∧ l.dropWhile p = l.drop n
  | [], n, hn, _, _ => by simp
  | x :: l, 0, _, _, h => by simp [h x rfl]
  | x :: l, n + 1, hn, h, h2 => by
    have hx := h 0 x (by omega) rfl
    have ih := tw_split (l := l) (n := n) (by simpa using hn) (fun q y hq hy => h (q + 1) y (by omega) (by simpa using hy)) (fun y hy => h2 y (by simpa using hy))
    simp [hx, ih.1, ih.2]
theorem batches_step {s : List Event} {i j : Nat} {x : Event} (hx : s[i]? = some x) (hij : i < j) (hj : j ≤ s.length) (h : ∀ (q : Nat) y, i ≤ q → q < j → s[q]? = some y → y.key.at_ = x.key.at_) (h2 : ∀ y, s[j]? = some y → y.key.at_ ≠ x.key.at_) :
    batchesE (s.drop i) = ((s.drop i).take (j - i)) :: batchesE (s.drop j) ∧ atE ((s.drop i).take (j - i)) = x.key.at_ := by
  have hi : i < s.length := by omega
  have e : s.drop i = x :: s.drop (i + 1) := by
    rw [List.drop_eq_getElem_cons hi]; congr 1; rw [List.getElem?_eq_getElem hi] at hx; exact Option.some.inj hx
  obtain ⟨m, rfl⟩ : ∃ m, j = i + 1 + m := ⟨j - (i + 1), by omega⟩
  have sp := tw_split (p := fun y => y.key.at_ == x.key.at_) (l := s.drop (i + 1)) (n := m) (by simp; omega)
    (fun q y hq hy => by rw [List.getElem?_drop] at hy; simpa using h _ y (by omega) (by omega) hy)
    (fun y hy => by rw [List.getElem?_drop] at hy; simpa using h2 y hy)
  rw [e, batchesE, sp.1, sp.2, show i + 1 + m - i = m + 1 by omega, List.take_succ_cons, List.drop_drop]
  exact ⟨rfl, rfl⟩
/-- What is handed over in a round. -/
def MadeB (g : List Event) (args : Array Value) (N : List Asn) : Prop := ∃ a v, args = #[.int .i64 a, v] ∧ a = atE g ∧ N = [Mem.Own 54 Event.cells 7 v g]
theorem Mem.St.takeTwo {G : Nat → Prop} {w0 w : World} {L : List Asn} {A B : Asn} (S : St G w0 w (L ++ [A, B])) : St G w0 w (B :: L) := by
  have S1 : St G w0 w ((L ++ [A]) ++ [B]) := by simpa using S
  have S2 : St G w0 w ((B :: L) ++ [A]) := S1.unrot
  exact S2.unrot.tail
def BtRel1 (b : Nat) (ad : Option Addr) (cp : Nat) (s : List Event) (G : Nat → Prop) (w0 : World) (Φ : Nat → List Asn → Prop) (i : Value) (wr : World) : Prop :=
  ∃ (k p : Nat) (L : List Asn), p ≤ s.length ∧ i = .int .i64 p ∧ Hid ((batchesE s).drop k = batchesE (s.drop p)) ∧ Hid (k ≤ (batchesE s).length) ∧ Φ k L ∧ St G w0 wr (Blk true b #[.slice ad s.length cp] 29 :: Sl true Event.cells 7 (.slice ad s.length cp) s :: L)
def BtRel2 (b : Nat) (ad : Option Addr) (cp : Nat) (s : List Event) (G : Nat → Prop) (w0 : World) (L : List Asn) (p : Nat) (x : Event) (j : Value) (wr : World) : Prop :=
  ∃ q : Nat, p < q ∧ q ≤ s.length ∧ j = .int .i64 q ∧ Hid (∀ (r : Nat) y, p ≤ r → r < q → s[r]? = some y → y.key.at_ = x.key.at_) ∧ St G w0 wr (Blk true b #[.slice ad s.length cp] 29 :: Sl true Event.cells 7 (.slice ad s.length cp) s :: L)
set_option maxRecDepth 100000 in
set_option maxHeartbeats 8000000 in
theorem batches1_iter (b : Nat) (ad : Option Addr) (cp : Nat) (s : List Event) (hn : s.length ≤ 65536) :
    IterC Tryd.prog 71 #[.pointer (some ⟨b, 0, none⟩)] [Blk true b #[.slice ad s.length cp] 29, Sl true Event.cells 7 (.slice ad s.length cp) s] (batchesE s) MadeB := by
  intro l G w0 W Φ Ψ L hY h0 S
  simp only [List.cons_append, List.nil_append] at S
  show Calls Tryd.prog 71 #[.func (.yield l) #[] #[], .pointer (some ⟨b, 0, none⟩)] W _
  have HY := Lib.hid hY
  clear hY
  go_enter Tryd.func71, Tryd.ntmps71
  go_wp2_with first | ((with_reducible apply wps_load S 0); (case hx | hi | hu => rfl); (case hT => decide +kernel))
  go_loopw [3] (fun i wr => BtRel1 b ad cp s G w0 Φ i wr) (fun i _ => s.length - (intOf i).toNat)
  case atStart => exact ⟨0, 0, L, Nat.zero_le _, rfl, rfl, Nat.zero_le _, h0, S⟩
  case round =>
    clear S h0
    obtain ⟨k, p, L, hp, rfl, Hk, Hkl, hΦ, S⟩ := hrel
    by_cases hlt : p < s.length
    · obtain ⟨x, hx⟩ : ∃ x, s[p]? = some x := ⟨_, List.getElem?_eq_getElem hlt⟩
      obtain ⟨R, o, rfl⟩ : ∃ R o, ad = some ⟨R, o, none⟩ := (S.sl 1 rfl).elim fun F h => h.head (by omega)
      have hlt2 : (p : Int) < s.length := by omega
      have Hx := Lib.hid hx
      have HΦ := Lib.hid hΦ
      clear hx hΦ
      go_wp2_with first | ((with_reducible apply wps_load S 0); (case hx | hi | hu => rfl); (case hT => decide +kernel))
      go_loopw [4] (fun j wr => BtRel2 b (some ⟨R, o, none⟩) cp s G w0 L p x j wr) (fun j _ => s.length - (intOf j).toNat)
      case atStart =>
        refine ⟨p + 1, by omega, by omega, by go_num, fun r y h1 h2 hy => ?_, S⟩
        obtain rfl : r = p := by omega
        rw [Hx.out] at hy; cases hy; rfl
      case round =>
        clear S
        obtain ⟨q, hpq, hq, rfl, Hz, S⟩ := hrel
        by_cases hqt : q < s.length
        · obtain ⟨y, hy⟩ : ∃ y, s[q]? = some y := ⟨_, List.getElem?_eq_getElem hqt⟩
          have hqt2 : (q : Int) < s.length := by omega
          by_cases hk : y.key.at_ = x.key.at_
          · have k1 : (y.key.at_ == x.key.at_) = true := by rw [hk]; simp
            have HKe := Lib.hid hk
            clear hk
            have Hy := Lib.hid hy
            clear hy
            go_wp2_with first | ((with_reducible apply wps_load_el S 1 (hj := Hy.out) (q := 0) (u := .int .i64 y.key.at_)); (case hx | hi => rfl); (case hn => omega); (case hu => rfl); (case hT => decide +kernel)) | ((with_reducible apply wps_load_el S 1 (hj := Hx.out) (q := 0) (u := .int .i64 x.key.at_)); (case hx | hi => rfl); (case hn => omega); (case hu => rfl); (case hT => decide +kernel)) | ((with_reducible refine tot_done ?ht ?_); (case ht => kernel_rfl)) | ((with_reducible apply wps_text S); (case hm => kernel_rfl); (case hB => decide +kernel); clear S; intro wz S) | ((with_reducible apply wps_load S 0); (case hx | hi | hu => rfl); (case hT => decide +kernel))
            go_roundw
            case rel =>
              refine ⟨q + 1, by omega, by omega, by go_num, fun r z h1 h2 hz => ?_, S⟩
              by_cases e : r = q
              · subst e; rw [Hy.out] at hz; cases hz; exact HKe.out
              · exact Hz.out r z h1 (by omega) hz
            case measure => first | (simp [intOf]; done) | (simp [intOf]; omega)
          · have k1 : (y.key.at_ == x.key.at_) = false := by simpa using hk
            have hstop : ∀ z, s[q]? = some z → z.key.at_ ≠ x.key.at_ := fun z hz => by rw [hy] at hz; cases hz; exact hk
            have hst := batches_step Hx.out hpq hq Hz.out hstop
            have Hat : Hid (x.key.at_ = atE ((s.take q).drop p)) := by show _ = _; rw [List.drop_take]; exact hst.2.symm
            have hd1 : (batchesE s).drop k = ((s.take q).drop p) :: batchesE (s.drop q) := by rw [Hk.out, hst.1, List.drop_take]
            have Hg : Hid ((batchesE s)[k]? = some ((s.take q).drop p)) := by
              have := congrArg (fun m : List (List Event) => m[0]?) hd1
              show _ = _
              simpa [List.getElem?_drop] using this
            have Hkl2 : Hid (k + 1 ≤ (batchesE s).length) := (List.getElem?_eq_some_iff.1 Hg.out).1
            have Hk2 : Hid ((batchesE s).drop (k + 1) = batchesE (s.drop q)) := by
              show _ = _
              rw [← List.drop_drop, hd1]; rfl
            clear hst hd1
            clear hk hstop
            have Hy := Lib.hid hy
            clear hy
            go_wp2_with first | ((with_reducible apply wps_load_el S 1 (hj := Hy.out) (q := 0) (u := .int .i64 y.key.at_)); (case hx | hi => rfl); (case hn => omega); (case hu => rfl); (case hT => decide +kernel)) | ((with_reducible apply wps_load_el S 1 (hj := Hx.out) (q := 0) (u := .int .i64 x.key.at_)); (case hx | hi => rfl); (case hn => omega); (case hu => rfl); (case hT => decide +kernel)) | ((with_reducible refine tot_done ?ht ?_); (case ht => kernel_rfl)) | ((with_reducible apply wps_text S); (case hm => kernel_rfl); (case hB => decide +kernel); clear S; intro wz S) | ((with_reducible apply wps_load S 0); (case hx | hi | hu => rfl); (case hT => decide +kernel))
            (refine wp_region_yi (soft := [0, 1, 2, 3, 4, 5, 6, 7, 8, 9]) 12 S ?hm ?hB ?_); (case hm => kernel_rfl); (case hB => decide +kernel); clear S
            iterate 10
              (with_reducible apply softs_cons)
              (case hw =>
                (with_reducible apply soft_of); (case hi => rfl)
                intro T wz S
                simp only [List.cons_append] at S
                go_wp2_with first | ((with_reducible apply wps_load_el S 1 (hj := Hx.out) (q := 0) (u := .int .i64 x.key.at_)); (case hx | hi => rfl); (case hn => omega); (case hu => rfl); (case hT => decide +kernel)) | ((with_reducible refine tot_done ?ht ?_); (case ht => kernel_rfl)) | ((with_reducible apply wps_load S 0); (case hx | hi | hu => rfl); (case hT => decide +kernel))
                exact ⟨rfl, S⟩)
              (case hs => exact ⟨_, rfl, by kernel_rfl⟩)
            refine softsI_nil ?_
            (with_reducible apply WI_hard1 (i := 10)); (case hn | hiy => rfl); (case hr => decide +kernel)
            intro wz S
            (with_reducible apply hardI_of); (case hi => rfl)
            simp only [List.cons_append] at S
            go_wp2_with first | ((with_reducible apply wps_slice (E := 54) S 1 (l := p) (u := q)); (case hx | hi => rfl); (case hT => exact Tryd.underlying29); (case hE => intro w; kernel_rfl); (case hlo | hhi => first | exact .inr rfl | exact .inl ⟨rfl, rfl⟩); (case h1 | h2 => first | omega | (simp; omega)); clear S; intro az nz cz hnz S) | ((with_reducible refine tot_done ?ht ?_); (case ht => kernel_rfl))
            refine ⟨[_], by have S2 := S.rot; simpa only [List.append_nil, List.cons_append, List.append_assoc, List.nil_append] using S2, ?_⟩
            clear S
            (with_reducible apply WI_hard1 (i := 11)); (case hn | hiy => rfl); (case hr => decide +kernel)
            intro wz S
            (with_reducible apply hardI_of); (case hi => rfl)
            simp only [List.cons_append] at S
            go_wp2_with first | (go_at_call 48; have S3 := (show St _ _ _ ((_ :: _ :: L) ++ [_]) from S).unrot; refine Calls.mono (clone_Ev _ _ (S3.get (i := 0) rfl).choose_spec (by simp; omega)) ?_; clear S3; rintro r wz ⟨ad2, c2, rfl, _, T⟩;  replace S := S.join T rfl; clear T; simp only [List.cons_append, List.nil_append] at S) | ((with_reducible refine tot_done ?ht ?_); (case ht => kernel_rfl))
            refine ⟨[_, _], by have S2 := S.rot; simpa only [List.append_nil, List.cons_append, List.append_assoc, List.nil_append] using S2, ?_⟩
            clear S
            (with_reducible apply WI_yield); (case hn => rfl); (case hr => decide +kernel)
            intro wz S
            have S3 := (show St G w0 wz ((_ :: _ :: L) ++ [_, _]) from S).takeTwo
            rw [show ((s.take q).drop p).length = q - p by rw [List.length_drop, List.length_take, Nat.min_eq_left (by omega)]] at S3
            clear S
            refine wpOpIn_yield (l := l) rfl rfl rfl rfl rfl rfl (HY.out k _ _ _ L wz Hg.out ⟨_, _, rfl, Hat.out, rfl⟩ HΦ.out S3) ?_
            clear S3
            rintro e w' ⟨L', S, (⟨rfl, hΦ'⟩ | ⟨rfl, hΨ⟩)⟩
            · refine ⟨_, rfl, ?_⟩
              refine anyIn_one (i := 13) rfl (by decide +kernel) rfl ?_
              go_wp2_with first | ((with_reducible refine tot_done ?ht ?_); (case ht => kernel_rfl))
              refine anyIn_done (by decide +kernel) ?_
              have HΦ' := Lib.hid hΦ'
              clear hΦ'
              go_wp2_with first | ((with_reducible apply wps_load S 0); (case hx | hi | hu => rfl); (case hT => decide +kernel))
              go_roundw
              case rel => exact ⟨k + 1, q, L', by omega, by go_num, Hk2.out, Hkl2.out, HΦ'.out, S⟩
              case measure => first | (simp [intOf]; done) | (simp [intOf]; omega)
            · refine ⟨_, rfl, ?_⟩
              refine anyIn_one (i := 13) rfl (by decide +kernel) rfl ?_
              go_wp2_with first | ((with_reducible refine tot_done ?ht ?_); (case ht => kernel_rfl))
              refine anyIn_done (by decide +kernel) ?_
              have HΨ := Lib.hid hΨ
              clear hΨ
              go_wp2_with first | ((with_reducible apply wps_load S 0); (case hx | hi | hu => rfl); (case hT => decide +kernel))
              (try simp only [Exit.inBlock, Exit.then]); refine bodyPost_ret (results_none rfl _ _ _) rfl ?_
              exact ⟨⟨_, rfl⟩, L', S, .inr ⟨k + 1, Hkl2.out, HΨ.out⟩⟩
        · obtain rfl : q = s.length := by omega
          have hstop : ∀ z, s[s.length]? = some z → z.key.at_ ≠ x.key.at_ := fun z hz => by simp at hz
          have hst := batches_step Hx.out hpq hq Hz.out hstop
          have Hat : Hid (x.key.at_ = atE ((s.take s.length).drop p)) := by show _ = _; rw [List.drop_take]; exact hst.2.symm
          have hd1 : (batchesE s).drop k = ((s.take s.length).drop p) :: batchesE (s.drop s.length) := by rw [Hk.out, hst.1, List.drop_take]
          have Hg : Hid ((batchesE s)[k]? = some ((s.take s.length).drop p)) := by
            have := congrArg (fun m : List (List Event) => m[0]?) hd1
            show _ = _
            simpa [List.getElem?_drop] using this
          have Hkl2 : Hid (k + 1 ≤ (batchesE s).length) := (List.getElem?_eq_some_iff.1 Hg.out).1
          have Hk2 : Hid ((batchesE s).drop (k + 1) = batchesE (s.drop s.length)) := by
            show _ = _
            rw [← List.drop_drop, hd1]; rfl
          clear hst hd1
          clear hstop
          go_wp2_with first | ((with_reducible refine wpList_skip ?hw ?_); (case hw => with_unfolding_all rfl); simp only [Act.put, List.setIfInBounds_toArray, List.set_cons_succ, List.set_cons_zero]) | ((with_reducible refine tot_done ?ht ?_); (case ht => kernel_rfl)) | ((with_reducible apply wps_text S); (case hm => kernel_rfl); (case hB => decide +kernel); clear S; intro wz S) | ((with_reducible apply wps_load S 0); (case hx | hi | hu => rfl); (case hT => decide +kernel))
          (refine wp_region_yi (soft := [0, 1, 2, 3, 4, 5, 6, 7, 8, 9]) 12 S ?hm ?hB ?_); (case hm => kernel_rfl); (case hB => decide +kernel); clear S
          iterate 10
            (with_reducible apply softs_cons)
            (case hw =>
              (with_reducible apply soft_of); (case hi => rfl)
              intro T wz S
              simp only [List.cons_append] at S
              go_wp2_with first | ((with_reducible apply wps_load_el S 1 (hj := Hx.out) (q := 0) (u := .int .i64 x.key.at_)); (case hx | hi => rfl); (case hn => omega); (case hu => rfl); (case hT => decide +kernel)) | ((with_reducible refine tot_done ?ht ?_); (case ht => kernel_rfl)) | ((with_reducible apply wps_load S 0); (case hx | hi | hu => rfl); (case hT => decide +kernel))
              exact ⟨rfl, S⟩)
            (case hs => exact ⟨_, rfl, by kernel_rfl⟩)
          refine softsI_nil ?_
          (with_reducible apply WI_hard1 (i := 10)); (case hn | hiy => rfl); (case hr => decide +kernel)
          intro wz S
          (with_reducible apply hardI_of); (case hi => rfl)
          simp only [List.cons_append] at S
          go_wp2_with first | ((with_reducible apply wps_slice (E := 54) S 1 (l := p) (u := s.length)); (case hx | hi => rfl); (case hT => exact Tryd.underlying29); (case hE => intro w; kernel_rfl); (case hlo | hhi => first | exact .inr rfl | exact .inl ⟨rfl, rfl⟩); (case h1 | h2 => first | omega | (simp; omega)); clear S; intro az nz cz hnz S) | ((with_reducible refine tot_done ?ht ?_); (case ht => kernel_rfl))
          refine ⟨[_], by have S2 := S.rot; simpa only [List.append_nil, List.cons_append, List.append_assoc, List.nil_append] using S2, ?_⟩
          clear S
          (with_reducible apply WI_hard1 (i := 11)); (case hn | hiy => rfl); (case hr => decide +kernel)
          intro wz S
          (with_reducible apply hardI_of); (case hi => rfl)
          simp only [List.cons_append] at S
          go_wp2_with first | (go_at_call 48; have S3 := (show St _ _ _ ((_ :: _ :: L) ++ [_]) from S).unrot; refine Calls.mono (clone_Ev _ _ (S3.get (i := 0) rfl).choose_spec (by simp; omega)) ?_; clear S3; rintro r wz ⟨ad2, c2, rfl, _, T⟩;  replace S := S.join T rfl; clear T; simp only [List.cons_append, List.nil_append] at S) | ((with_reducible refine tot_done ?ht ?_); (case ht => kernel_rfl))
          refine ⟨[_, _], by have S2 := S.rot; simpa only [List.append_nil, List.cons_append, List.append_assoc, List.nil_append] using S2, ?_⟩
          clear S
          (with_reducible apply WI_yield); (case hn => rfl); (case hr => decide +kernel)
          intro wz S
          have S3 := (show St G w0 wz ((_ :: _ :: L) ++ [_, _]) from S).takeTwo
          rw [show ((s.take s.length).drop p).length = s.length - p by rw [List.length_drop, List.length_take, Nat.min_eq_left (by omega)]] at S3
          clear S
          refine wpOpIn_yield (l := l) rfl rfl rfl rfl rfl rfl (HY.out k _ _ _ L wz Hg.out ⟨_, _, rfl, Hat.out, rfl⟩ HΦ.out S3) ?_
          clear S3
          rintro e w' ⟨L', S, (⟨rfl, hΦ'⟩ | ⟨rfl, hΨ⟩)⟩
          · refine ⟨_, rfl, ?_⟩
            refine anyIn_one (i := 13) rfl (by decide +kernel) rfl ?_
            go_wp2_with first | ((with_reducible refine tot_done ?ht ?_); (case ht => kernel_rfl))
            refine anyIn_done (by decide +kernel) ?_
            have HΦ' := Lib.hid hΦ'
            clear hΦ'
            go_wp2_with first | ((with_reducible apply wps_load S 0); (case hx | hi | hu => rfl); (case hT => decide +kernel))
            go_roundw
            case rel => exact ⟨k + 1, s.length, L', by omega, by go_num, Hk2.out, Hkl2.out, HΦ'.out, S⟩
            case measure => first | (simp [intOf]; done) | (simp [intOf]; omega)
          · refine ⟨_, rfl, ?_⟩
            refine anyIn_one (i := 13) rfl (by decide +kernel) rfl ?_
            go_wp2_with first | ((with_reducible refine tot_done ?ht ?_); (case ht => kernel_rfl))
            refine anyIn_done (by decide +kernel) ?_
            have HΨ := Lib.hid hΨ
            clear hΨ
            go_wp2_with first | ((with_reducible apply wps_load S 0); (case hx | hi | hu => rfl); (case hT => decide +kernel))
            (try simp only [Exit.inBlock, Exit.then]); refine bodyPost_ret (results_none rfl _ _ _) rfl ?_
            exact ⟨⟨_, rfl⟩, L', S, .inr ⟨k + 1, Hkl2.out, HΨ.out⟩⟩
    · obtain rfl : p = s.length := by omega
      have hkk : k = (batchesE s).length := by
        have h1 := Hk.out
        rw [List.drop_length] at h1
        have h2 := congrArg List.length h1
        have h3 := Hkl.out
        rw [show batchesE [] = [] by rw [batchesE]] at h2
        simp only [List.length_drop, List.length_nil] at h2
        omega
      have Hkk := Lib.hid hkk
      have HΦ := Lib.hid hΦ
      clear hkk hΦ
      go_wp2_with first | ((with_reducible apply wps_load S 0); (case hx | hi | hu => rfl); (case hT => decide +kernel))
      go_end0
      exact ⟨⟨_, rfl⟩, L, S, .inl (by rw [← Hkk.out]; exact HΦ.out)⟩
set_option maxRecDepth 100000 in
set_option maxHeartbeats 4000000 in
/-- keys.Batches hands back an iterator over a new list in order. -/
theorem batches_calls (v : Value) (l : List Event) (w : World) (F : Nat → Prop) (h : (Sl true Event.cells 7 v l).at_ w F) (hn : l.length ≤ 65536) :
    Calls Tryd.prog 58 #[v] w fun r w' => ∃ b ad c, r = .returned (.func (.func 71) #[] #[.pointer (some ⟨b, 0, none⟩)]) ∧ St (fun _ => False) w w' [Blk false b #[.slice ad l.length c] 29, Mem.Own 54 Event.cells 7 (.slice ad l.length c) (sortE l)] := by
  have S : St (fun _ => False) w w [Sl true Event.cells 7 v l] := (St.init _ w).share rfl rfl h
  clear h
  go_enter Tryd.func58, Tryd.ntmps58
  go_wp2_with first | (go_at_call 31; refine Calls.mono (sort_calls _ l _ _ (S.get (i := 0) rfl).choose_spec hn) ?_; rintro e wz ⟨ad, c, rfl, T⟩; replace S := S.join T rfl; clear T; simp only [List.cons_append, List.nil_append] at S) | ((with_reducible apply wps_store S 0); (case hx | hy | hi | h1 => rfl); (case hn => exact Nat.le_of_ble_eq_true rfl); (case hT => decide +kernel); clear S; intro wz S; simp only [List.set_cons_zero, List.setIfInBounds_toArray] at S) | ((with_reducible apply wps_alloc1 (E := 29) S); (case hz => exact Tryd.zeroValue29); (case h1 => rfl); clear S; intro bz wz S)
  go_ret
  exact ⟨_, _, _, rfl, S.pick [0, 1] rfl⟩
end Go.Proofs.YtfiiaechippboaaDoor

import Derived.Test.YtcbdacmdmaoegaaOps
import Derived.RangeFuncNested
import Derived.RangeFuncBound
import Derived.RangeFuncCalls
import Derived.RangeFuncLeaves
import Derived.OrdersIn
import Derived.OwnWalkIn
import Derived.TacticsInMore
import Derived.LoopNIn
import Derived.LoopIn
/- Regions in a round of a range over a function (or in an iterator), walked as regions anywhere. Over any program. -/
namespace Go.Proofs.Ytcbdacmdmaoegaa.Mem
open Go Go.RowKit Reg

/-- A fence that bars nothing, in a round or in none. -/
def Wide (F : Fence) : Prop := F = Fence.wide ∨ ∃ r, F = Fence.wide.inRound r
theorem Wide.fn {F : Fence} (h : Wide F) (f : FuncId) : F.fn f := by rcases h with rfl | ⟨r, rfl⟩ <;> exact trivial
theorem Wide.depth {F : Fence} (h : Wide F) : F.depth = none := by rcases h with rfl | ⟨r, rfl⟩ <;> rfl
theorem Wide.round {F : Fence} (h : Wide F) (r : Nat) : Wide (F.inRound r) := by rcases h with rfl | ⟨s, rfl⟩ <;> exact .inr ⟨r, rfl⟩
theorem Wide.calls {F : Fence} {n : Nat} {P : Program} {f : FuncId} {args : Array Value} {w : World} {R : Ending → World → Prop} (hF : Wide F) (h : Calls P f args w R) : CallsIn F n P f args w R := by
  rcases hF with rfl | ⟨r, rfl⟩
  · exact callsIn_wide.2 h
  · exact CallsIn.inRound r (callsIn_wide.2 h)
theorem Wide.rows {F : Fence} {n : Nat} {P : Program} {row : String} {args : Array Value} {w : World} {R : Value → World → Prop} (hF : Wide F) (h : Rows P row args w R) : RowsIn F n P row args w R := by
  rcases hF with rfl | ⟨r, rfl⟩
  · intro c cs _
    obtain ⟨v, w', hR, hs⟩ := h c cs
    exact ⟨v, w', hR, stepsIn_wide.2 hs⟩
  · intro c cs _
    obtain ⟨v, w', hR, hs⟩ := h c cs
    exact ⟨v, w', hR, stepsIn_wide.2 hs⟩
/-- No other end than the plain one. -/
def Only (K : Act → World → Prop) : Exit → Act → World → Prop
  | .normal, a, w => K a w
  | _, _, _ => False
theorem only_done {K : Act → World → Prop} {a : Act} {w : World} (h : K a w) : Only K .normal a w := h
theorem only_lets {K : Act → World → Prop} : ¬ LetsOut (Only K) := fun ⟨_, _, h⟩ => h
def noDefer (o : Oper) : Bool := match o.op with | .defer _ => false | _ => true
section
variable {F : Fence} {n : Nat} {P : Program} {ops : Array Oper} {Q : Exit → Act → World → Prop} {md : Region.Mode} {K : Act → World → Prop}
theorem oper_in (hF : Wide F) {o : Oper} (hd : noDefer o = true) {a : Act} {w : World} {K' : Act → World → Prop} (h : o.wp P a w K' (Only K)) : o.wpIn F n P a w K' Q := by
  refine ⟨fun f _ => hF.fn f, ?_⟩
  have hs : o.semAt F.round a.eval = execOp a.eval o := Oper.semAt_eq _ _ _ (fun c e => by simp [noDefer, e] at hd)
  rw [hs]
  have hdp : ¬ (F.depth.isSome = true) := by rw [hF.depth]; simp
  unfold Oper.wp at h
  generalize (execOp a.eval o).run P w = r at *
  cases r with
  | ok x w' =>
    cases x <;> simp only [Oper.upon, Oper.uponIn] at h ⊢ <;>
      first
        | exact h
        | exact h.elim
        | exact ⟨fun e => (hdp e).elim, hF.calls (h.mono fun e w'' he => by cases e <;> first | exact he | exact he.elim | exact absurd he only_lets)⟩
        | exact ⟨fun e => (hdp e).elim, hF.rows h⟩
  | halt x w' => cases x <;> simp only [Oper.upon, Oper.uponIn] at h ⊢ <;> exact h.elim
theorem list_in (hF : Wide F) (hQ : ∀ a w, K a w → Q .normal a w) : ∀ (l : List Oper), l.all noDefer = true → ∀ (a : Act) (w : World), wpList P ops (Only K) l a w → wpListIn F n P ops Q l a w
  | [], _, a, w, h => hQ a w h
  | o :: rest, hd, a, w, h => by
    simp only [List.all_cons, Bool.and_eq_true] at hd
    unfold wpListIn
    unfold wpList at h
    split
    · rename_i hw
      rw [if_pos hw] at h
      rcases h with h | ⟨_, h⟩
      · exact Oper.wpIn_mono (fun a w => list_in hF hQ rest hd.2 a w) (oper_in hF hd.1 h)
      · exact absurd h only_lets
    · rename_i hw
      rw [if_neg hw] at h
      exact ⟨fun f _ => hF.fn f, list_in hF hQ rest hd.2 _ _ h⟩
theorem any_in (hF : Wide F) (hQ : ∀ a w, K a w → Q .normal a w) (hd : ops.all noDefer = true) : ∀ (fuel : Nat) (listed : Array Bool) (a : Act) (w : World), wpAny P md ops (Only K) fuel listed a w → wpAnyIn F n P md ops Q fuel listed a w
  | 0, _, a, w, h => ⟨h.1, hQ a w h.2⟩
  | f + 1, listed, a, w, h => by
    refine ⟨fun e => hQ a w (h.1 e), fun i hi => ?_⟩
    have := h.2 i hi
    unfold wpOpIn
    unfold wpOp at this
    cases ho : ops[i]? with
    | none => simp only [ho] at this ⊢; exact any_in hF hQ hd f _ a w this
    | some o =>
      simp only [ho] at this ⊢
      have hdo : noDefer o = true := by
        rw [Array.all_eq_true] at hd
        obtain ⟨h1, h2⟩ := Array.getElem?_eq_some_iff.1 ho
        rw [← h2]; exact hd i h1
      split
      · rename_i hw
        rw [if_pos hw] at this
        rcases this with h | ⟨_, h⟩
        · exact Oper.wpIn_mono (fun a w => any_in hF hQ hd f _ a w) (oper_in hF hdo h)
        · exact absurd h only_lets
      · rename_i hw
        rw [if_neg hw] at this
        exact ⟨fun f _ => hF.fn f, any_in hF hQ hd f _ _ _ this⟩
/-- A region that keeps the text's order. -/
theorem wpi_list {id : Nat} {l : List Oper} {a : Act} {w : World} (hF : Wide F) (hd : l.all noDefer = true) (h : wpList P l.toArray (Only (Q .normal)) l a w) : (Code.region id l.toArray false).wpIn F n P Q a w :=
  wpIn_region_lit (list_in hF (fun _ _ h => h) l hd a w h)
/-- A region that draws its order. -/
theorem wpi_text {G : Nat → Prop} {w0 w : World} {L : List Asn} {id : Nat} {l : List Oper} {a : Act} (S : St G w0 w L) (hF : Wide F) (hd : l.all noDefer = true) (hm : P.follows .mixedOrders = true) (hB : textB P l.toArray = true)
    (next : ∀ w', St G w0 w' L → wpList P l.toArray (Tot (allNeeds l.toArray) (Only (Q .normal))) l a w') : (Code.region id l.toArray true).wpIn F n P Q a w := by
  have h := next _ (S.ext (keep_drew w))
  simp only [textB, Bool.and_eq_true] at hB
  refine wpIn_region_any hm (any_in hF (K := Q .normal) (fun _ _ h => h) (by simpa [Array.all_eq_true', List.all_eq_true] using hd) _ _ _ _ (any_tot _ _ _ _ (?_ : wpAny P .any l.toArray (Tot (allNeeds l.toArray) (Only (Q .normal))) _ _ _ _)))
  have hc : Closed .any l.toArray (Array.replicate l.toArray.size false) := fun j oj _ hl => by
    rw [Array.getD_eq_getD_getElem?] at hl
    by_cases hj : j < l.toArray.size
    · rw [Array.getElem?_replicate, if_pos hj] at hl; cases hl
    · rw [Array.getElem?_replicate, if_neg hj] at hl; cases hl
  have := any_text hB.1.1 hB.1.2 l 0 (Array.replicate l.toArray.size false) a { w with drawn := w.drawn + 1 } (by simp) hc (by simpa using hB.2) h
  simpa using this
end
end Go.Proofs.Ytcbdacmdmaoegaa.Mem

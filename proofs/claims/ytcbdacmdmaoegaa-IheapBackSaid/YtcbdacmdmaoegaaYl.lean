import Derived.Test.YtcbdacmdmaoegaaRange
/- A region in the text's order that calls yield. Over any program. -/
namespace Go.Proofs.Ytcbdacmdmaoegaa.Mem
open Go Go.RowKit Reg
section
variable {P : Program} {ops : Array Oper} {Q : Exit → Act → World → Prop} {K : Act → World → Prop}
theorem list_in_tail {F : Fence} {n : Nat} (hF : Wide F) {tl : List Oper} (hQ : ∀ a w, K a w → wpListIn F n P ops Q tl a w) : ∀ (l : List Oper), l.all noDefer = true → ∀ (a : Act) (w : World), wpList P ops (Only K) l a w → wpListIn F n P ops Q (l ++ tl) a w
  | [], _, a, w, h => hQ a w h
  | o :: rest, hd, a, w, h => by
    simp only [List.all_cons, Bool.and_eq_true] at hd
    rw [List.cons_append]
    unfold wpListIn
    unfold wpList at h
    split
    · rename_i hw
      rw [if_pos hw] at h
      rcases h with h | ⟨_, h⟩
      · exact Oper.wpIn_mono (fun a w => list_in_tail hF hQ rest hd.2 a w) (oper_in hF hd.1 h)
      · exact absurd h only_lets
    · rename_i hw
      rw [if_neg hw] at h
      exact ⟨fun f _ => hF.fn f, list_in_tail hF hQ rest hd.2 _ _ h⟩
theorem wpList_only {l : List Oper} {a : Act} {w : World} (h : ∀ K' : Act → World → Prop, (∀ a w, K a w → K' a w) → wpList P ops (Only K') l a w) : wpList P ops (Only K) l a w := h K fun _ _ h => h
theorem wp_region_yl {id : Nat} {l : List Oper} {a : Act} {w : World} (y : Nat) {pre tl : List Oper} (h1 : l.take y = pre) (h2 : l.drop y = tl) (hd : pre.all noDefer = true)
    (h : ∀ K : Act → World → Prop, (∀ a w, wpListIn Fence.wide 0 P l.toArray Q tl a w → K a w) → wpList P l.toArray (Only K) pre a w) : (Code.region id l.toArray false).wp P Q a w := by
  refine (wpIn_wide (n := 0)).1 (wpIn_region_lit ?_)
  have := list_in_tail (F := Fence.wide) (n := 0) (Q := Q) (.inl rfl) (fun _ _ h => h) pre hd a w (h _ fun _ _ h => h)
  rw [← h1, ← h2, List.take_append_drop] at this
  exact this
theorem yield_in {l : Nat} {o : Oper} {tl : List Oper} {x : Operand} {ars : Array Operand} {ts : Array TypeId} {d : Option Tmp} {argl : List Value} {a : Act} {w : World} {R : Ending → World → Prop}
    (ho : o.op = .call { callee := .value x, args := ars, argTypes := ts }) (hdst : o.dst = d) (hg : o.guard = none) (hx : a.eval x = .func (.yield l) #[] #[]) (has : ars.toList.map a.eval = argl) (hY : YieldAt Fence.wide 0 P l argl.toArray w R)
    (hR : ∀ e w', R e w' → ∃ v, e = .returned v ∧ wpListIn Fence.wide 0 P ops Q tl (a.put d v) w') : wpListIn Fence.wide 0 P ops Q (o :: tl) a w := by
  have has2 : ars.map a.eval = argl.toArray := by rw [← Array.toList_inj]; simpa using has
  obtain ⟨fn, tmps, assign, body, hy, hround⟩ := hY
  unfold wpListIn
  have hw : Region.wanted o (yielded ops a.tmps) = true := by unfold Region.wanted; rw [hg]
  rw [if_pos hw]
  refine ⟨fun _ _ => trivial, ?_⟩
  have hs : o.semAt Fence.wide.round a.eval = execOp a.eval o := Oper.semAt_eq _ _ _ (fun c e => by rw [ho] at e; cases e)
  rw [hs]
  have hrun : (execOp a.eval o).run P w = .ok (.round l fn tmps assign body) w := by
    obtain ⟨dst, op, type, pos, af, guard⟩ := o
    simp only at ho
    subst ho
    simp only [execOp, resolve, hx, has2]
    simp [go_sem, invoke, hy]
  rw [hrun, Oper.uponIn_round]
  refine ⟨fun e => by simp [Fence.wide] at e, hround.mono fun e w' he => ?_⟩
  obtain ⟨v, rfl, hk⟩ := hR e w' he
  rw [hdst]
  exact hk
theorem list_only {l : List Oper} {a : Act} {w : World} (hd : l.all noDefer = true) (h : ∀ K : Act → World → Prop, (∀ a w, Q .normal a w → K a w) → wpList P ops (Only K) l a w) : wpListIn Fence.wide 0 P ops Q l a w :=
  list_in (.inl rfl) (fun _ _ h => h) l hd a w (h _ fun _ _ h => h)
end
end Go.Proofs.Ytcbdacmdmaoegaa.Mem

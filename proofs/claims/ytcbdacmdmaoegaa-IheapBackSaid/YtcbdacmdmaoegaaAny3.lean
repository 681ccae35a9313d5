import Derived.Test.YtcbdacmdmaoegaaAny2
/- Operations of one value in the midst of a region that draws its order. Over any program. -/
namespace Go.Proofs.Ytcbdacmdmaoegaa.Mem
open Go Go.RowKit Reg
section
variable {P : Program} {ops : Array Oper} {Q : Exit → Act → World → Prop} {G : Nat → Prop} {w0 : World} {L : List Asn}
def closedB (ops : Array Oper) (listed : Array Bool) : Bool :=
  (List.range ops.size).all fun j => !listed.getD j false || ((ops[j]?).map (·.after.all fun e => !Region.binds .any e || listed.getD e.on false)).getD true
theorem closed_of {listed : Array Bool} (h : closedB ops listed = true) : Closed .any ops listed := fun j oj hj hl e he hb => by
  have h1 := List.all_eq_true.1 h j (List.mem_range.2 (Array.getElem?_eq_some_iff.1 hj).1)
  rw [hj] at h1
  simp only [hl, Option.map_some, Option.getD_some, Bool.not_true, Bool.false_or, Array.all_eq_true'] at h1
  have := h1 e he
  rw [hb] at this
  simpa using this
theorem W_mid {n f : Nat} {soft : List Nat} {T : List Asn} {listed : Array Bool} {a : Act} (hn : n = f + soft.length) (hB : (ordB ops && closedB ops listed && readyAll ops soft listed) = true)
    (h : Softs P ops Q G w0 L (fun A => W P ops Q G w0 L f T (after soft listed) A) soft a) : W P ops Q G w0 L n T listed a := by
  simp only [Bool.and_eq_true] at hB
  rw [hn]
  exact W_softs hB.1.1 soft f T listed a (closed_of hB.1.2) hB.2 h
theorem W_hard3 {n f i i' i'' : Nat} (hn : n = f + 1) {T : List Asn} {listed : Array Bool} {a : Act} (hr : Region.ready .any ops listed = [i, i', i''])
    (h : ∀ w, St G w0 w (L ++ T) → wpOp P ops (Tot [] Q) i (fun a' w' => ∃ T', St G w0 w' (L ++ T') ∧ W P ops Q G w0 L f T' (listed.setIfInBounds i true) a') a w)
    (h' : ∀ w, St G w0 w (L ++ T) → wpOp P ops (Tot [] Q) i' (fun a' w' => ∃ T', St G w0 w' (L ++ T') ∧ W P ops Q G w0 L f T' (listed.setIfInBounds i' true) a') a w)
    (h'' : ∀ w, St G w0 w (L ++ T) → wpOp P ops (Tot [] Q) i'' (fun a' w' => ∃ T', St G w0 w' (L ++ T') ∧ W P ops Q G w0 L f T' (listed.setIfInBounds i'' true) a') a w) : W P ops Q G w0 L n T listed a := by
  subst hn
  exact fun w S => ⟨fun e => by rw [hr] at e; (cases e), fun j hj => by
    rw [hr] at hj; simp at hj
    rcases hj with rfl | rfl | rfl
    · exact h w S
    · exact h' w S
    · exact h'' w S⟩
end
end Go.Proofs.Ytcbdacmdmaoegaa.Mem

import Derived.Test.YtcbdacmdmaoegaaAny
/- A region that draws its order, beside things that its hard operations turn. Over any program. -/
namespace Go.Proofs.Ytcbdacmdmaoegaa.Mem
open Go Go.RowKit Reg
section
variable {P : Program} {ops : Array Oper} {Q : Exit → Act → World → Prop} {G : Nat → Prop} {w0 : World} {L : List Asn}
theorem wp_region_wt {id : Nat} {soft : List Nat} {a : Act} {w : World} {T : List Asn} (S : St G w0 w (L ++ T)) (hm : P.follows .mixedOrders = true) (hB : softB ops soft = true)
    (h : Softs P ops Q G w0 L (fun A => W P ops Q G w0 L (ops.size - soft.length) T (after soft (Array.replicate ops.size false)) A) soft a) : (Code.region id ops true).wp P Q a w := by
  simp only [softB, Bool.and_eq_true] at hB
  have hc : Closed .any ops (Array.replicate ops.size false) := fun j oj _ hl => by
    rw [Array.getD_eq_getD_getElem?] at hl
    by_cases hj : j < ops.size
    · rw [Array.getElem?_replicate, if_pos hj] at hl; cases hl
    · rw [Array.getElem?_replicate, if_neg hj] at hl; cases hl
  have hle := Nat.le_of_ble_eq_true hB.2
  have := W_softs hB.1.1 soft (ops.size - soft.length) T _ a hc hB.1.2 h
  rw [show ops.size - soft.length + soft.length = ops.size by omega] at this
  exact wp_region_any hm (W_any _ T _ a _ this (S.ext (keep_drew w)))
end
end Go.Proofs.Ytcbdacmdmaoegaa.Mem

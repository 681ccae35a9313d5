import Derived.Test.YtcbdacmdmaoegaaRange
import Derived.Test.YtcbdacmdmaoegaaRes
import Derived.Test.YtcbdacmdmaoegaaSt2
/- What a function whose body holds a range over a function wants beside the law. Over any program. -/
namespace Go.Proofs.Ytcbdacmdmaoegaa
open Go Go.RowKit Reg Mem

section
variable {P : Program} {fn : Func} {R : Ending → World → Prop} {G : Nat → Prop} {w0 w : World} {L : List Asn} {a : Act} {tmps : Array Value} {r1 : ResultVar} {v1 : Value}
theorem results1 (h : fn.results = #[r1]) (h1 : ResV P w tmps r1 v1) : (results fn tmps).run P w = .ok v1 w := by
  cases r1 <;> simp only [ResV, Array.getD_eq_getD_getElem?] at h1
  · simp [results, h, h1]
  · obtain ⟨b1, p1, l1⟩ := h1; simp [results, h, p1, asAddr, l1]
theorem leaves_ret {v : Value} (hd : a.defers = []) (hr : (results fn a.tmps).run P w = .ok v w) (hR : R (.returned v) w) : bodyPostM Fence.wide 0 P fn R .ret a w := by
  show LeavesInM _ _ _ _ _ _ a.defers _ _
  rw [hd]
  exact ⟨v, hr, hR⟩
theorem leaves_ret1 {D : Nat} (S : St G w0 w (DefA D :: L)) (hd : a.defers = [{ target := .collected D, args := #[] }]) (h : ∀ w', St G w0 w' L → ∃ v, (results fn a.tmps).run P w' = .ok v w' ∧ R (.returned v) w') : bodyPostM Fence.wide 0 P fn R .ret a w := by
  show LeavesInM _ _ _ _ _ _ a.defers _ _
  rw [hd]
  exact ⟨by simp, .inl ⟨D, _, rfl, run_takeDeferred S.taken.1, h _ S.taken.2⟩⟩
end
theorem run_eql_func_nil {P : Program} (w : World) {t : TypeId} {ps rs : Array TypeId} {va : Bool} (f : Fn) (ts bs : Array Value) (ht : P.underlying t = some (.func ps rs va)) : (binOp .eql t (.func f ts bs) .nilFunc).run P w = .ok (.bool false) w := by
  have h : ∀ d : Nat, (Op.equalIn (d + 1) t (.func f ts bs) .nilFunc).run P w = .ok false w := fun d => by
    simp [Op.equalIn, run_underlying ht]
  simp only [binOp]
  simp [Op.equal, Op.maxDepth, h 9999]
theorem calls_enter {P : Program} {f : FuncId} {fn : Func} {c : Code} (hf : P.funcs[f]? = some fn) (hname : (fn.name == "runtime.NumGoroutine") = false) (hb : fn.body = some c) (args : Array Value) (w : World) : (callFunc f args).run P w = .ok (.enter f args) w := by
  have h1 : fn.name ≠ "runtime.NumGoroutine" := by simpa using hname
  simp [callFunc, hf, h1, hb]
theorem Mem.St.lastSplit {G : Nat → Prop} {w0 w : World} {L : List Asn} {X : Asn} (S : St G w0 w L) (h : L.getLast? = some X) : St G w0 w (L.dropLast ++ [X]) := by
  obtain ⟨ys, rfl⟩ := List.getLast?_eq_some_iff.1 h
  simpa using S
theorem wpi_list_k {F : Fence} {n : Nat} {P : Program} {Q : Exit → Act → World → Prop} {id : Nat} {l : List Oper} {a : Act} {w : World} (hF : Mem.Wide F) (hd : l.all noDefer = true)
    (h : ∀ K : Act → World → Prop, (∀ a w, Q .normal a w → K a w) → wpList P l.toArray (Only K) l a w) : (Code.region id l.toArray false).wpIn F n P Q a w := wpi_list hF hd (h _ fun _ _ h => h)
theorem wpi_text_k {F : Fence} {n : Nat} {P : Program} {Q : Exit → Act → World → Prop} {G : Nat → Prop} {w0 w : World} {L : List Asn} {id : Nat} {l : List Oper} {a : Act} (S : St G w0 w L) (hF : Mem.Wide F) (hd : l.all noDefer = true) (hm : P.follows .mixedOrders = true) (hB : textB P l.toArray = true)
    (h : ∀ K : Act → World → Prop, (∀ a w, Q .normal a w → K a w) → ∀ w', St G w0 w' L → wpList P l.toArray (Tot (allNeeds l.toArray) (Only K)) l a w') : (Code.region id l.toArray true).wpIn F n P Q a w := wpi_text S hF hd hm hB (h _ fun _ _ h => h)
theorem wpi_at {F : Fence} {n : Nat} {P : Program} {ops : Array Oper} {Q : Exit → Act → World → Prop} {l : List Oper} {a : Act} {w : World} (hF : Mem.Wide F) (hd : l.all noDefer = true)
    (h : ∀ K : Act → World → Prop, (∀ a w, Q .normal a w → K a w) → wpList P ops (Only K) l a w) : wpListIn F n P ops Q l a w := list_in hF (fun _ _ h => h) l hd a w (h _ fun _ _ h => h)
theorem zip_two (p q : Tmp) (v u : Value) (t : Array Value) : (#[p, q].zip #[v, u]).foldl (fun t (p, v) => t.setIfInBounds p v) t = (t.setIfInBounds p v).setIfInBounds q u := by simp
/-- A thing that is only read. -/
def shr (A : Asn) : Asn where
  sh := true
  at_ := A.at_
  loc := A.loc
  lt := A.lt
end Go.Proofs.Ytcbdacmdmaoegaa

import Derived.Test.YtfiiaechippboaaDoorOpen4
import Derived.Test.YtfiiaechippboaaDoorStab6
/- Opening a case that came in: a process, a state, events. -/
namespace Go.Proofs.YtfiiaechippboaaDoor
open Go Go.ChangeShapes Go.WideShapes Go.ChangeAt Go.RowKit Mem

theorem list3 {α : Type} : ∀ {l : List α}, l.length = 3 → ∃ a b c, l = [a, b, c]
  | [a, b, c], _ => ⟨a, b, c, rfl⟩
section
variable {H : Type} {enc : TypeId × Value → H} {w : World} {base : Nat} {spare : Nat → Bool} {held : Bool}
/-- A number of the kind. -/
def I64 (n : Int) : Prop := -9223372036854775808 ≤ n ∧ n ≤ 9223372036854775807
structure WideS (s : State) : Prop where
  n0 : I64 s.n0
  n1 : I64 s.n1
  n2 : I64 s.n2
  n3 : I64 s.n3
set_option maxRecDepth 100000 in
theorem open_case {v : Value} {d : DataW H} {p : List MemPlace} {r : Reach} {base2 : Nat} (h : DataW.Trod enc Tryd.prog w base spare held 31 v d p) (hv : Value.okWide Tryd.prog w r base2 31 v) :
    ∃ (lp : Int) (s : State) (vL : Value) (l : List Event), v = .agg #[.int .i64 lp, .int .i64 s.n0, .int .i64 s.n1, .int .i64 s.n2, .int .i64 s.n3, vL] ∧ (Sl true Event.cells 7 vL l).at_ w (fun b => b < w.heap.size) ∧ l.length ≤ maxLen := by
  obtain ⟨cs, rfl, _⟩ := okWide_struct Tryd.underlying31 hv
  obtain ⟨fuel, hf⟩ := h
  obtain ⟨xs, n, _, _, hlen, hxl, hfs⟩ := DataW.trod_struct Tryd.underlying31 hf
  have zC : Tryd.prog.cellsOf 31 = 6 := by kernel_rfl
  have zS : Tryd.prog.cellsOf 28 = 4 := by kernel_rfl
  have zL : Tryd.prog.cellsOf 29 = 1 := by kernel_rfl
  have zI : Tryd.prog.cellsOf 3 = 1 := by kernel_rfl
  have e0 : (Value.agg cs).cells.toList = cs.toList := rfl
  rw [e0] at hfs hlen
  rw [zC] at hlen
  obtain ⟨c0, c1, c2, c3, c4, c5, hcs⟩ := list6 hlen
  obtain ⟨y0, y1, y2, rfl⟩ := list3 (show xs.length = 3 from hxl)
  have f0 : DataW.trod enc Tryd.prog w base spare held n 3 [c0] = some y0 := by
    have h : DataW.trod enc Tryd.prog w base spare held n 3 ((cs.toList.drop 0).take (Tryd.prog.cellsOf 3)) = some y0 := hfs 0 _ rfl
    rw [zI, hcs] at h
    exact h
  have f1 : DataW.trod enc Tryd.prog w base spare held n 28 [c1, c2, c3, c4] = some y1 := by
    have h : DataW.trod enc Tryd.prog w base spare held n 28 ((cs.toList.drop 1).take (Tryd.prog.cellsOf 28)) = some y1 := hfs 1 _ rfl
    rw [zS, hcs] at h
    exact h
  have f2 : DataW.trod enc Tryd.prog w base spare held n 29 [c5] = some y2 := by
    have h : DataW.trod enc Tryd.prog w base spare held n 29 ((cs.toList.drop 5).take (Tryd.prog.cellsOf 29)) = some y2 := hfs 2 _ rfl
    rw [zL, hcs] at h
    exact h
  obtain ⟨lp, g0, _⟩ := DataW.trod_int Tryd.underlying3 f0
  obtain ⟨h1, _⟩ := trod_flat 100 28 i4 (by kernel_rfl) (by kernel_rfl) n _ _ f1
  obtain ⟨a, b, c, d, g1⟩ := dec4 h1
  obtain ⟨vL, l, g2, a2, l2⟩ := trod_sl (ks := i7) Event.cells 7 Tryd.underlying29 (by kernel_rfl) (by kernel_rfl) rfl (by decide) ecells event_dec f2
  cases g0; cases g1; cases g2
  refine ⟨lp, ⟨a, b, c, d⟩, c5, l, ?_, ⟨a2, fun _ h => h⟩, l2⟩
  congr 1
  rw [← Array.toList_inj, hcs]
end
end Go.Proofs.YtfiiaechippboaaDoor

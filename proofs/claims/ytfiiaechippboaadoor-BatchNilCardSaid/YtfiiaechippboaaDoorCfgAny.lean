import Derived.Test.YtfiiaechippboaaDoorC4
/- A configuration out of its parts. -/
namespace Go.Proofs.YtfiiaechippboaaDoor
open Go Go.RowKit Reg Mem

theorem cfg_any {vP vL vS : Value} {hs : List Value} {c : Cfg} {w : World} {F1 F2 F3 F4 : Nat → Prop} (h1 : (Sl true vcell 1 vP hs).at_ w F1) (h2 : (Sl true Place.cells 5 vL c.lps).at_ w F2) (h3 : (Sl true Start.cells 4 vS c.starts).at_ w F3) (h4 : (Sls true Instr.cells 5 hs c.programs).at_ w F4) :
    (CfgA true [vP, vL, vS, .int .i64 c.fin, .int .i64 c.fuel, .int .i64 c.fan] hs c).at_ w (fun b => b < w.heap.size) :=
  ⟨⟨⟨vP, vL, vS, rfl, h1.1.mono h1.2, h2.1.mono h2.2, h3.1.mono h3.2⟩, h4.1.mono h4.2⟩, fun _ h => h⟩
theorem sls_one {α : Type} {enc : α → List Value} {k : Nat} {v : Value} {xs : List α} {w : World} {F : Nat → Prop} (h : (Sl true enc k v xs).at_ w F) : (Sls true enc k [v] [xs]).at_ w F :=
  ⟨⟨rfl, fun i u ys hu hy => by
    cases i with
    | zero => simp at hu hy; subst hu; subst hy; exact h.1
    | succ i => simp at hu⟩, h.2⟩
end Go.Proofs.YtfiiaechippboaaDoor

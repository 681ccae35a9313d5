import Derived.Test.YtjmecncebdbhdaaDoorR19
import Derived.Test.YtjmecncebdbhdaaDoorR18
import Derived.Test.YtjmecncebdbhdaaDoorR15
import Derived.Shelf.SlSortCmp.NoneTotal
import Derived.Test.YtjmecncebdbhdaaDoorR09
/- slices.SortFunc of events by inq.Compare; the walk of a model's rules. -/
namespace Go.Proofs.YtjmecncebdbhdaaDoor
open Go Go.RowKit Reg Mem Go.Shelf Go.Sort

set_option maxRecDepth 100000 in
/-- Events sorted by inq.Compare. -/
theorem sortev_calls {G : Nat → Prop} {w0 w : World} {L : List Asn} (i : Nat) {v : Value} {l : List Event} (S : St G w0 w L) (hi : L[i]? = some (Own 52 Event.cells 7 v l)) (hn : l.length ≤ 65536) :
    Calls Tryd.prog 24 #[v, .func (.func 25) #[] #[]] w fun e w' => e = .returned (.tuple #[]) ∧ St G w0 w' (L.set i (Own 52 Event.cells 7 v (sortT l))) := by
  obtain ⟨ad, c, rfl, _⟩ := (S.ownsl ecells i hi).elim fun _ h => h.form
  by_cases h0 : l.length = 0
  · obtain rfl : l = [] := List.eq_nil_of_length_eq_zero h0
    refine Calls.mono (AnyF.slices_SortFunc_none (P := Tryd.prog) (ρ := sortEvs_ren) { sortEvs with } _ _ _ _) ?_
    rintro e wz ⟨rfl, rfl⟩
    refine ⟨rfl, ?_⟩
    have e : L.set i (Own 52 Event.cells 7 (.slice ad ([] : List Event).length c) (sortT [])) = L := by
      obtain ⟨h1, h2⟩ := List.getElem?_eq_some_iff.1 hi
      rw [show sortT [] = [] from rfl, ← h2, List.set_getElem_self]
    rw [e]
    exact S
  · obtain ⟨R, c', e⟩ := own_hd i S hi (by omega)
    simp only [Value.slice.injEq] at e
    obtain ⟨rfl, _, rfl⟩ := e
    refine Calls.mono (sortK (P := Tryd.prog) (ρ := sortEvs_ren) (i := i) (enc := Event.cells) (k := 7) sortEvs (fun w => by kernel_rfl) sizeEv ecells eone Event.tcmp swo_ev 25 #[] (fun _ _ => rfl) S hi (by omega) (fun W _ x y => icmpare_grew x y W)) ?_
    rintro e wz ⟨rfl, ys, hp2, hs2, S2⟩
    rw [sorted_ev hp2 hs2] at S2
    exact ⟨rfl, S2⟩
def RRunPost (s2 : State) (out : List Event) (w : World) (e : Ending) (w' : World) : Prop :=
  ∃ ad cp, e = .returned (.tuple #[.agg #[.int .i64 s2.n0, .int .i64 s2.n1, .int .i64 s2.n2, .int .i64 s2.n3], .slice ad out.length cp]) ∧ St (fun _ => False) w w' [Own 52 Event.cells 7 (.slice ad out.length cp) out]
theorem sortT_len (l : List Event) : (sortT l).length = l.length := (sortT_perm l).length_eq
end Go.Proofs.YtjmecncebdbhdaaDoor
/- A configuration out of its parts. -/
namespace Go.Proofs.YtjmecncebdbhdaaDoor
open Go Go.RowKit Reg Mem

theorem cfg_any {vP vL vS : Value} {hs : List Value} {c : Cfg} {w : World} {F1 F2 F3 F4 : Nat → Prop} (h1 : (Sl true vcell 1 vP hs).at_ w F1) (h2 : (Sl true Place.cells 5 vL c.lps).at_ w F2) (h3 : (Sl true Start.cells 4 vS c.starts).at_ w F3) (h4 : (Sls true Instr.cells 5 hs c.programs).at_ w F4) :
    (CfgA true [vP, vL, vS, .int .i64 c.fin, .int .i64 c.fuel, .int .i64 c.fan] hs c).at_ w (fun b => b < w.heap.size) :=
  ⟨⟨⟨vP, vL, vS, rfl, h1.1.mono h1.2, h2.1.mono h2.2, h3.1.mono h3.2⟩, h4.1.mono h4.2⟩, fun _ h => h⟩
theorem sls_one {α : Type} {enc : α → List Value} {k : Nat} {v : Value} {xs : List α} {w : World} {F : Nat → Prop} (h : (Sl true enc k v xs).at_ w F) : (Sls true enc k [v] [xs]).at_ w F :=
  ⟨⟨rfl, fun i u ys hu hy => by
    cases i with
    | zero => simp at hu hy; subst hu; subst hy; exact h.1
    | succ i => simp at hu⟩, h.2⟩
end Go.Proofs.YtjmecncebdbhdaaDoor

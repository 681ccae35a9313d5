import Derived.Test.YtfiiaechippboaaDoorT
import Derived.Test.YtfiiaechippboaaDoorMod2
/- Opening a configuration that came in. -/
namespace Go.Proofs.YtfiiaechippboaaDoor
open Go Go.ChangeShapes Go.WideShapes Go.ChangeAt Go.RowKit Mem

abbrev i5 : List TypeDesc := [.int .i64, .int .i64, .int .i64, .int .i64, .int .i64]
theorem dec5 {vs : List Value} (h0 : fits i5 vs = true) : ∃ a b c d e : Int, vs = [.int .i64 a, .int .i64 b, .int .i64 c, .int .i64 d, .int .i64 e] := by
  obtain ⟨a, v1, rfl, h1⟩ := fits_cons_int h0
  obtain ⟨b, v2, rfl, h2⟩ := fits_cons_int h1
  obtain ⟨c, v3, rfl, h3⟩ := fits_cons_int h2
  obtain ⟨d, v4, rfl, h4⟩ := fits_cons_int h3
  obtain ⟨e, v5, rfl, h5⟩ := fits_cons_int h4
  obtain rfl := fits_none h5
  exact ⟨a, b, c, d, e, rfl⟩
theorem dec4 {vs : List Value} (h0 : fits i4 vs = true) : ∃ a b c d : Int, vs = [.int .i64 a, .int .i64 b, .int .i64 c, .int .i64 d] := by
  obtain ⟨a, v1, rfl, h1⟩ := fits_cons_int h0
  obtain ⟨b, v2, rfl, h2⟩ := fits_cons_int h1
  obtain ⟨c, v3, rfl, h3⟩ := fits_cons_int h2
  obtain ⟨d, v4, rfl, h4⟩ := fits_cons_int h3
  obtain rfl := fits_none h4
  exact ⟨a, b, c, d, rfl⟩
theorem instr_dec : ∀ vs, fits i5 vs = true → (∀ v ∈ vs, wfv v = true) → ∃ k : Instr, k.cells = vs ∧ True := fun vs h _ => by
  obtain ⟨a, b, c, d, e, rfl⟩ := dec5 h; exact ⟨⟨a, b, c, d, e⟩, rfl, trivial⟩
theorem place_dec : ∀ vs, fits i5 vs = true → (∀ v ∈ vs, wfv v = true) → ∃ k : Place, k.cells = vs ∧ True := fun vs h _ => by
  obtain ⟨a, b, c, d, e, rfl⟩ := dec5 h; exact ⟨⟨a, ⟨b, c, d, e⟩⟩, rfl, trivial⟩
theorem start_dec : ∀ vs, fits i4 vs = true → (∀ v ∈ vs, wfv v = true) → ∃ k : Start, k.cells = vs ∧ True := fun vs h _ => by
  obtain ⟨a, b, c, d, rfl⟩ := dec4 h; exact ⟨⟨a, b, c, d⟩, rfl, trivial⟩
section
variable {H : Type} {enc : TypeId × Value → H} {w : World} {base : Nat} {spare : Nat → Bool} {held : Bool}
/-- A slice of plain things, from its one cell. -/
theorem trod_sl {P : Program} {t e : TypeId} {ks : List TypeDesc} {α : Type} (en : α → List Value) (k : Nat) (ht : P.underlying t = some (.slice e)) (hl : lay P 100 e = some ks) (hk : P.cellsOf e = ks.length) (hkk : ks.length = k) (h0 : 0 < k) (hen : ∀ x, (en x).length = k)
    (dec : ∀ vs, fits ks vs = true → (∀ v ∈ vs, wfv v = true) → ∃ x : α, en x = vs ∧ True) {fuel : Nat} {cs : List Value} {x : DataW H × List MemPlace} (hf : DataW.trod enc P w base spare held fuel t cs = some x) :
    ∃ v, ∃ xs : List α, cs = [v] ∧ SlAt en k w (fun b => b < w.heap.size) v xs ∧ xs.length ≤ maxLen := by
  obtain ⟨a, c, xs, hcs, h1, hc2, h2, _, hc⟩ := open_slice_flat en (fun _ => True) ht hl hk (by omega) dec hf
  refine ⟨_, xs, hcs, ⟨a, c, rfl, h1, fun e => (h2 e).2, fun i y hi => ?_⟩, by omega⟩
  obtain ⟨R, o, e, hcell⟩ := hc i y hi
  refine ⟨R, o, e, ?_, fun j u hj => by rw [← hkk]; exact hcell j u hj⟩
  have hy : 0 < (en y).length := by rw [hen]; exact h0
  have := hcell 0 _ (List.getElem?_eq_getElem hy)
  exact Nat.lt_of_not_le fun hge => by simp [World.cell?, Array.getElem?_eq_none hge] at this
/-- A slice of slices. -/
theorem trod_sls {P : Program} {t e e2 : TypeId} {ks : List TypeDesc} {α : Type} (en : α → List Value) (k : Nat) (ht : P.underlying t = some (.slice e)) (he : P.underlying e = some (.slice e2)) (hce : P.cellsOf e = 1) (hl : lay P 100 e2 = some ks) (hk : P.cellsOf e2 = ks.length) (hkk : ks.length = k) (h0 : 0 < k) (hen : ∀ x, (en x).length = k)
    (dec : ∀ vs, fits ks vs = true → (∀ v ∈ vs, wfv v = true) → ∃ x : α, en x = vs ∧ True) {fuel : Nat} {cs : List Value} {x : DataW H × List MemPlace} (hf : DataW.trod enc P w base spare held fuel t cs = some x) :
    ∃ v, ∃ hs : List Value, ∃ xss : List (List α), cs = [v] ∧ SlAt vcell 1 w (fun b => b < w.heap.size) v hs ∧ SlsAt en k w (fun b => b < w.heap.size) hs xss ∧ xss.length ≤ maxLen ∧ ∀ xs ∈ xss, xs.length ≤ maxLen := by
  obtain ⟨a, c, ys, hcs, h1, hc2, h2, hok, hc⟩ := open_slice_any (α := Value × List α) (k := 1) (fun y => [y.1]) (fun y => SlAt en k w (fun b => b < w.heap.size) y.1 y.2 ∧ y.2.length ≤ maxLen) ht hce (by omega)
    (fun n vs x hx => by obtain ⟨v, xs, h3, h4, h5⟩ := trod_sl en k he hl hk hkk h0 hen dec hx; exact ⟨(v, xs), h3.symm, h4, h5⟩) hf
  refine ⟨_, ys.map (·.1), ys.map (·.2), hcs, ⟨a, c, by simp, by simpa using h1, fun e => (h2 e).2, fun i y hi => ?_⟩, ⟨by simp, fun i v xs hv hx => ?_⟩, by simp; omega, fun xs hx => ?_⟩
  · rw [List.getElem?_map] at hi
    cases hy : ys[i]? with
    | none => rw [hy] at hi; cases hi
    | some z =>
      rw [hy] at hi; simp at hi; subst hi
      obtain ⟨R, o, e, hcell⟩ := hc i z hy
      refine ⟨R, o, e, ?_, fun j u hj => hcell j u hj⟩
      have := hcell 0 _ rfl
      exact Nat.lt_of_not_le fun hge => by simp [World.cell?, Array.getElem?_eq_none hge] at this
  · rw [List.getElem?_map] at hv hx
    cases hy : ys[i]? with
    | none => rw [hy] at hv; cases hv
    | some z =>
      rw [hy] at hv hx; simp at hv hx; subst hv; subst hx
      exact (hok z (List.mem_of_getElem? hy)).1
  · obtain ⟨z, hz, rfl⟩ := List.mem_map.1 hx
    exact (hok z hz).2
/-- How long things that came in may be. -/
structure Wide (c : Cfg) : Prop where
  p : c.programs.length ≤ maxLen
  q : ∀ x ∈ c.programs, x.length ≤ maxLen
  l : c.lps.length ≤ maxLen
  s : c.starts.length ≤ maxLen
theorem list6 {α : Type} : ∀ {l : List α}, l.length = 6 → ∃ a b c d e f, l = [a, b, c, d, e, f]
  | [a, b, c, d, e, f], _ => ⟨a, b, c, d, e, f, rfl⟩
set_option maxRecDepth 100000 in
theorem open_cfg {v : Value} {d : DataW H} {p : List MemPlace} {r : Reach} {base2 : Nat} (h : DataW.Trod enc Tryd.prog w base spare held 26 v d p) (hv : Value.okWide Tryd.prog w r base2 26 v) :
    ∃ vs hs c, v = .agg vs.toArray ∧ (CfgA true vs hs c).at_ w (fun b => b < w.heap.size) ∧ Wide c := by
  obtain ⟨cs, rfl, _⟩ := okWide_struct Tryd.underlying26 hv
  obtain ⟨fuel, hf⟩ := h
  obtain ⟨xs, n, _, _, hlen, hxl, hfs⟩ := DataW.trod_struct Tryd.underlying26 hf
  have z26 : Tryd.prog.cellsOf 26 = 6 := by kernel_rfl
  have zP : Tryd.prog.cellsOf 22 = 1 := by kernel_rfl
  have zL : Tryd.prog.cellsOf 23 = 1 := by kernel_rfl
  have zS : Tryd.prog.cellsOf 24 = 1 := by kernel_rfl
  have zI : Tryd.prog.cellsOf 3 = 1 := by kernel_rfl
  have e0 : (Value.agg cs).cells.toList = cs.toList := rfl
  rw [e0] at hfs hlen
  rw [z26] at hlen
  obtain ⟨c0, c1, c2, c3, c4, c5, hcs⟩ := list6 hlen
  obtain ⟨y0, y1, y2, y3, y4, y5, rfl⟩ := list6 (show xs.length = 6 from hxl)
  have f0 : DataW.trod enc Tryd.prog w base spare held n 22 [c0] = some y0 := by
    have h : DataW.trod enc Tryd.prog w base spare held n 22 ((cs.toList.drop 0).take (Tryd.prog.cellsOf 22)) = some y0 := hfs 0 _ rfl
    rw [zP, hcs] at h
    exact h
  have f1 : DataW.trod enc Tryd.prog w base spare held n 23 [c1] = some y1 := by
    have h : DataW.trod enc Tryd.prog w base spare held n 23 ((cs.toList.drop 1).take (Tryd.prog.cellsOf 23)) = some y1 := hfs 1 _ rfl
    rw [zL, hcs] at h
    exact h
  have f2 : DataW.trod enc Tryd.prog w base spare held n 24 [c2] = some y2 := by
    have h : DataW.trod enc Tryd.prog w base spare held n 24 ((cs.toList.drop 2).take (Tryd.prog.cellsOf 24)) = some y2 := hfs 2 _ rfl
    rw [zS, hcs] at h
    exact h
  have f3 : DataW.trod enc Tryd.prog w base spare held n 3 [c3] = some y3 := by
    have h : DataW.trod enc Tryd.prog w base spare held n 3 ((cs.toList.drop 3).take (Tryd.prog.cellsOf 3)) = some y3 := hfs 3 _ rfl
    rw [zI, hcs] at h
    exact h
  have f4 : DataW.trod enc Tryd.prog w base spare held n 3 [c4] = some y4 := by
    have h : DataW.trod enc Tryd.prog w base spare held n 3 ((cs.toList.drop 4).take (Tryd.prog.cellsOf 3)) = some y4 := hfs 4 _ rfl
    rw [zI, hcs] at h
    exact h
  have f5 : DataW.trod enc Tryd.prog w base spare held n 3 [c5] = some y5 := by
    have h : DataW.trod enc Tryd.prog w base spare held n 3 ((cs.toList.drop 5).take (Tryd.prog.cellsOf 3)) = some y5 := hfs 5 _ rfl
    rw [zI, hcs] at h
    exact h
  obtain ⟨vP, hs, pss, g0, a0, b0, l0, m0⟩ := trod_sls (ks := i5) Instr.cells 5 Tryd.underlying22 Tryd.underlying71 (by kernel_rfl) (by kernel_rfl) (by kernel_rfl) rfl (by decide) incells instr_dec f0
  obtain ⟨vL, ls, g1, a1, l1⟩ := trod_sl (ks := i5) Place.cells 5 Tryd.underlying23 (by kernel_rfl) (by kernel_rfl) rfl (by decide) plcells place_dec f1
  obtain ⟨vS, ss, g2, a2, l2⟩ := trod_sl (ks := i4) Start.cells 4 Tryd.underlying24 (by kernel_rfl) (by kernel_rfl) rfl (by decide) stcells start_dec f2
  obtain ⟨n3, g3, _⟩ := DataW.trod_int Tryd.underlying3 f3
  obtain ⟨n4, g4, _⟩ := DataW.trod_int Tryd.underlying3 f4
  obtain ⟨n5, g5, _⟩ := DataW.trod_int Tryd.underlying3 f5
  cases g0; cases g1; cases g2; cases g3; cases g4; cases g5
  refine ⟨_, hs, ⟨pss, ls, ss, n3, n4, n5⟩, ?_, ⟨⟨⟨_, _, _, rfl, a0, a1, a2⟩, b0⟩, fun _ h => h⟩, ⟨l0, m0, l1, l2⟩⟩
  rw [← hcs]
end
end Go.Proofs.YtfiiaechippboaaDoor

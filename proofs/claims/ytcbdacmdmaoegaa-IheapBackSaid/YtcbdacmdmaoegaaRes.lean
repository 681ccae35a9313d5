import Derived.Test.YtcbdacmdmaoegaaOps2
/- Several results, of which some lie in cells. Over any program. -/
namespace Go.Proofs.Ytcbdacmdmaoegaa.Mem
open Go Go.RowKit Reg

/-- What a result is. -/
def ResV (P : Program) (w : World) (tmps : Array Value) : ResultVar → Value → Prop
  | .tmp t, v => tmps.getD t undef = v
  | .cell q t, v => ∃ b, tmps.getD q undef = .pointer (some ⟨b, 0, none⟩) ∧ (loadVar t ⟨b, 0, none⟩).run P w = .ok v w
section
variable {P : Program} {fn : Func} {tmps : Array Value} {G : Nat → Prop} {w0 w : World} {L : List Asn} {r1 r2 r3 : ResultVar} {v1 v2 v3 : Value}
theorem results2 (h : fn.results = #[r1, r2]) (h1 : ResV P w tmps r1 v1) (h2 : ResV P w tmps r2 v2) : (results fn tmps).run P w = .ok (.tuple #[v1, v2]) w := by
  cases r1 <;> cases r2 <;> simp only [ResV, Array.getD_eq_getD_getElem?] at h1 h2
  · simp [results, h, h1, h2]
  · obtain ⟨b2, p2, l2⟩ := h2; simp [results, h, h1, p2, asAddr, l2]
  · obtain ⟨b1, p1, l1⟩ := h1; simp [results, h, h2, p1, asAddr, l1]
  · obtain ⟨b1, p1, l1⟩ := h1; obtain ⟨b2, p2, l2⟩ := h2; simp [results, h, p1, p2, asAddr, l1, l2]
theorem results3 (h : fn.results = #[r1, r2, r3]) (h1 : ResV P w tmps r1 v1) (h2 : ResV P w tmps r2 v2) (h3 : ResV P w tmps r3 v3) : (results fn tmps).run P w = .ok (.tuple #[v1, v2, v3]) w := by
  cases r1 <;> cases r2 <;> cases r3 <;> simp only [ResV, Array.getD_eq_getD_getElem?] at h1 h2 h3
  · simp [results, h, h1, h2, h3]
  · obtain ⟨b3, p3, l3⟩ := h3; simp [results, h, h1, h2, p3, asAddr, l3]
  · obtain ⟨b2, p2, l2⟩ := h2; simp [results, h, h1, h3, p2, asAddr, l2]
  · obtain ⟨b2, p2, l2⟩ := h2; obtain ⟨b3, p3, l3⟩ := h3; simp [results, h, h1, p2, p3, asAddr, l2, l3]
  · obtain ⟨b1, p1, l1⟩ := h1; simp [results, h, h2, h3, p1, asAddr, l1]
  · obtain ⟨b1, p1, l1⟩ := h1; obtain ⟨b3, p3, l3⟩ := h3; simp [results, h, h2, p1, p3, asAddr, l1, l3]
  · obtain ⟨b1, p1, l1⟩ := h1; obtain ⟨b2, p2, l2⟩ := h2; simp [results, h, h3, p1, p2, asAddr, l1, l2]
  · obtain ⟨b1, p1, l1⟩ := h1; obtain ⟨b2, p2, l2⟩ := h2; obtain ⟨b3, p3, l3⟩ := h3; simp [results, h, p1, p2, p3, asAddr, l1, l2, l3]
/-- A result that lies in a cell, whole. -/
theorem St.resA {sh : Bool} {b : Nat} {cs : Array Value} {t ty : TypeId} {q : Tmp} (S : St G w0 w L) (i : Nat) (hi : L[i]? = some (Blk sh b cs t)) (hp : tmps.getD q undef = .pointer (some ⟨b, 0, none⟩)) (hA : aggB P ty cs.size = true) : ResV P w tmps (.cell q ty) (.agg cs) := by
  refine ⟨b, hp, ?_⟩
  have hl := run_loadVar_agg (P := P) (t := ty) (b := b) (o := 0) (w := w) (vs := cs.toList) (by simpa using hA) (fun j u hj => by rw [Nat.zero_add, cell_of (S.blk i hi)]; simpa using hj)
  simpa using hl
theorem St.res1 {sh : Bool} {b : Nat} {v : Value} {t ty : TypeId} {q : Tmp} (S : St G w0 w L) (i : Nat) (hi : L[i]? = some (Blk sh b #[v] t)) (hp : tmps.getD q undef = .pointer (some ⟨b, 0, none⟩)) (hT : leafB P ty = true) : ResV P w tmps (.cell q ty) v :=
  ⟨b, hp, run_load_leaf hT (by rw [cell_of (S.blk i hi)]; rfl)⟩
theorem res_tmp {t : Tmp} {v : Value} (h : tmps.getD t undef = v) : ResV P w tmps (.tmp t) v := h
end
end Go.Proofs.Ytcbdacmdmaoegaa.Mem

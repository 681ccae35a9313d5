import Derived.Test.YtcbdacmdmaoegaaOpen2
import Derived.Test.YtcbdacmdmaoegaaH6
/- Reading the arguments of law03: calls. -/
namespace Go.Proofs.Ytcbdacmdmaoegaa
open Go Go.ChangeShapes Go.WideShapes Go.ChangeAt Go.RowKit Mem
abbrev i6 : List TypeDesc := [.int .i64, .int .i64, .int .i64, .int .i64, .int .i64, .int .i64]
theorem op3_dec : ∀ vs, fits i6 vs = true → (∀ v ∈ vs, wfv v = true) → ∃ k : Op3, k.cells = vs ∧ True := by
  intro vs h0 _
  obtain ⟨a, v1, e1, h1⟩ := fits_cons_int h0
  obtain ⟨b, v2, e2, h2⟩ := fits_cons_int h1
  obtain ⟨c, v3, e3, h3⟩ := fits_cons_int h2
  obtain ⟨d, v4, e4, h4⟩ := fits_cons_int h3
  obtain ⟨e, v5, e5, h5⟩ := fits_cons_int h4
  obtain ⟨f, v6, e6, h6⟩ := fits_cons_int h5
  obtain rfl := fits_none h6
  subst e6
  subst e5
  subst e4
  subst e3
  subst e2
  subst e1
  exact ⟨⟨a, ⟨b, c, d, e⟩, f⟩, rfl, trivial⟩
end Go.Proofs.Ytcbdacmdmaoegaa

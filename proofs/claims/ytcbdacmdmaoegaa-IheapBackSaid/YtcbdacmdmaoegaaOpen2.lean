import Derived.Test.YtcbdacmdmaoegaaOpen
import Derived.Test.YtcbdacmdmaoegaaOps
import Derived.Test.YtcbdacmdmaoegaaKeysP
/- Reading the arguments of a law: slices of plain structs; keys, events, messages. -/
namespace Go.Proofs.Ytcbdacmdmaoegaa
open Go Go.ChangeShapes Go.WideShapes Go.ChangeAt Go.RowKit Mem

theorem Try.own : ownKnob Try.prog.godebug = none := by kernel_rfl
theorem Try.laidOut : laidOutB Try.prog = true := by kernel_rfl
theorem fits_cons {k : TypeDesc} {ks : List TypeDesc} {vs : List Value} (h : fits (k :: ks) vs = true) : ∃ v us, vs = v :: us ∧ fit k v = true ∧ fits ks us = true := by
  cases vs with
  | nil => simp [fits] at h
  | cons v us => simp only [fits, Bool.and_eq_true] at h; exact ⟨v, us, rfl, h.1, h.2⟩
theorem fits_none {vs : List Value} (h : fits [] vs = true) : vs = [] := by
  cases vs with
  | nil => rfl
  | cons v us => simp [fits] at h
theorem fit_int {v : Value} (h : fit (.int .i64) v = true) : ∃ a, v = .int .i64 a := by cases v <;> simp [fit] at h; subst h; exact ⟨_, rfl⟩
theorem fit_bool {v : Value} (h : fit .bool v = true) : ∃ a, v = .bool a := by cases v <;> simp [fit] at h; exact ⟨_, rfl⟩
theorem fits_cons_int {ks : List TypeDesc} {vs : List Value} (h : fits (.int .i64 :: ks) vs = true) : ∃ a us, vs = .int .i64 a :: us ∧ fits ks us = true := by
  obtain ⟨v, us, rfl, h1, h2⟩ := fits_cons h
  obtain ⟨a, rfl⟩ := fit_int h1
  exact ⟨a, us, rfl, h2⟩
abbrev i4 : List TypeDesc := [.int .i64, .int .i64, .int .i64, .int .i64]
abbrev i7 : List TypeDesc := [.int .i64, .int .i64, .int .i64, .int .i64, .int .i64, .int .i64, .int .i64]
abbrev i7b : List TypeDesc := [.int .i64, .int .i64, .int .i64, .int .i64, .int .i64, .int .i64, .int .i64, .bool]
theorem key_dec : ∀ vs, fits i4 vs = true → (∀ v ∈ vs, wfv v = true) → ∃ k : Key, k.cells = vs ∧ True := by
  intro vs h0 _
  obtain ⟨a, v1, e1, h1⟩ := fits_cons_int h0
  obtain ⟨b, v2, e2, h2⟩ := fits_cons_int h1
  obtain ⟨c, v3, e3, h3⟩ := fits_cons_int h2
  obtain ⟨d, v4, e4, h4⟩ := fits_cons_int h3
  obtain rfl := fits_none h4
  subst e4
  subst e3
  subst e2
  subst e1
  exact ⟨⟨a, b, c, d⟩, rfl, trivial⟩
theorem event_dec : ∀ vs, fits i7 vs = true → (∀ v ∈ vs, wfv v = true) → ∃ k : Event, k.cells = vs ∧ True := by
  intro vs h0 _
  obtain ⟨a, v1, e1, h1⟩ := fits_cons_int h0
  obtain ⟨b, v2, e2, h2⟩ := fits_cons_int h1
  obtain ⟨c, v3, e3, h3⟩ := fits_cons_int h2
  obtain ⟨d, v4, e4, h4⟩ := fits_cons_int h3
  obtain ⟨e, v5, e5, h5⟩ := fits_cons_int h4
  obtain ⟨f, v6, e6, h6⟩ := fits_cons_int h5
  obtain ⟨g, v7, e7, h7⟩ := fits_cons_int h6
  obtain rfl := fits_none h7
  subst e7
  subst e6
  subst e5
  subst e4
  subst e3
  subst e2
  subst e1
  exact ⟨⟨⟨a, b, c, d⟩, e, f, g⟩, rfl, trivial⟩
theorem message_dec : ∀ vs, fits i7b vs = true → (∀ v ∈ vs, wfv v = true) → ∃ k : Message, k.cells = vs ∧ True := by
  intro vs h0 _
  obtain ⟨a, v1, e1, h1⟩ := fits_cons_int h0
  obtain ⟨b, v2, e2, h2⟩ := fits_cons_int h1
  obtain ⟨c, v3, e3, h3⟩ := fits_cons_int h2
  obtain ⟨d, v4, e4, h4⟩ := fits_cons_int h3
  obtain ⟨e, v5, e5, h5⟩ := fits_cons_int h4
  obtain ⟨f, v6, e6, h6⟩ := fits_cons_int h5
  obtain ⟨g, v7, e7, h7⟩ := fits_cons_int h6
  obtain ⟨v, v8, e8, gb, h8⟩ := fits_cons h7
  obtain ⟨x, rfl⟩ := fit_bool gb
  obtain rfl := fits_none h8
  subst e8
  subst e7
  subst e6
  subst e5
  subst e4
  subst e3
  subst e2
  subst e1
  exact ⟨⟨⟨⟨a, b, c, d⟩, e, f, g⟩, x⟩, rfl, trivial⟩
section
variable {P : Program} {H : Type} {enc : TypeId × Value → H}
theorem open_sl {t e : TypeId} {ks : List TypeDesc} {α : Type} (en : α → List Value) (k : Nat) (ht : P.underlying t = some (.slice e)) (hl : lay P 100 e = some ks) (hk : P.cellsOf e = ks.length) (hkk : ks.length = k) (h0 : 0 < k) (hen : ∀ x, (en x).length = k)
    (dec : ∀ vs, fits ks vs = true → (∀ v ∈ vs, wfv v = true) → ∃ x : α, en x = vs ∧ True) {w : World} {base : Nat} {spare : Nat → Bool} {held : Bool} {v : Value} {d : DataW H} {p : List MemPlace} {r : Reach} {base2 : Nat}
    (h : DataW.Trod enc P w base spare held t v d p) (hv : Value.okWide P w r base2 t v) : ∃ xs : List α, (Sl true en k v xs).at_ w (fun b => b < w.heap.size) := by
  obtain ⟨fuel, hf⟩ := h
  obtain ⟨a, c, xs, hcs, h1, _, h2, _, hc⟩ := open_slice_flat en (fun _ => True) ht hl hk (by omega) dec hf
  obtain ⟨x, len, cap, rfl⟩ := okWide_slice ht hv
  simp [Value.cells] at hcs
  obtain ⟨rfl, rfl, rfl⟩ := hcs
  refine ⟨xs, ⟨x, cap, rfl, h1, fun e => (h2 e).2, fun i y hi => ?_⟩, fun b hb => hb⟩
  obtain ⟨R, o, e, hcell⟩ := hc i y hi
  refine ⟨R, o, e, ?_, fun j u hj => by rw [← hkk]; exact hcell j u hj⟩
  have hy : 0 < (en y).length := by rw [hen]; exact h0
  have := hcell 0 _ (List.getElem?_eq_getElem hy)
  exact Nat.lt_of_not_le fun hge => by simp [World.cell?, Array.getElem?_eq_none hge] at this
end
end Go.Proofs.Ytcbdacmdmaoegaa

/- boomeranglaw02.KeysOrder answers true for every three keys, and leaves its arguments as they were. Its conditions: none beyond the row's own. -/
import Derived.Test.YtejdfgonkfgnfaaOpen
import Derived.Test.YtejdfgonkfgnfaaL1
namespace Go.Proofs.Ytejdfgonkfgnfaa
open Go Go.ChangeShapes Go.WideShapes Go.ChangeAt Go.RowKit Mem

theorem Try.own : ownKnob Try.prog.godebug = none := by kernel_rfl
theorem Try.laidOut : laidOutB Try.prog = true := by kernel_rfl
theorem key_dec : ∀ vs, fits [.int .i64, .int .i64, .int .i64, .int .i64] vs = true → (∀ v ∈ vs, wfv v = true) → ∃ k : Key, k.cells = vs ∧ True := by
  intro vs h _
  have e : ∀ v, fit (.int .i64) v = true → ∃ a, v = .int .i64 a := fun v hv => by cases v <;> simp [fit] at hv; subst hv; exact ⟨_, rfl⟩
  match vs, h with
  | [], h => simp [fits] at h
  | [_], h => simp [fits] at h
  | [_, _], h => simp [fits] at h
  | [_, _, _], h => simp [fits] at h
  | v0 :: v1 :: v2 :: v3 :: l, h =>
    simp only [fits, Bool.and_eq_true] at h
    obtain ⟨h0, h1, h2, h3, h4⟩ := h
    obtain ⟨a, rfl⟩ := e _ h0
    obtain ⟨b, rfl⟩ := e _ h1
    obtain ⟨c, rfl⟩ := e _ h2
    obtain ⟨d, rfl⟩ := e _ h3
    cases l with
    | nil => exact ⟨⟨a, b, c, d⟩, rfl, trivial⟩
    | cons _ _ => simp [fits] at h4
set_option maxRecDepth 100000 in
theorem keysOrder_lifted (os : Os) (started : os.Started) (H : Type) (enc : TypeId × Value → H) :
    ReturnsInHanded {} Try.checked os 3 .any (Rows.keysOrderSpec.pre6 enc Try.prog Try.f3 Rows.keysOrderRow.domain false) (Rows.keysOrderSpec.post enc Try.prog Try.f3 false true false false) := by
  refine returnsInHanded_of_change (C := Try.checked) Try.own started (by kernel_rfl) Try.func3
    (ChangeSpec.witness6 (enc := enc) (C := Try.checked) false ⟨#[], #[.agg #[.int .i64 0, .int .i64 0, .int .i64 0, .int .i64 0], .agg #[.int .i64 0, .int .i64 0, .int .i64 0, .int .i64 0], .agg #[.int .i64 0, .int .i64 0, .int .i64 0, .int .i64 0]], []⟩ 8 (by kernel_rfl) (by kernel_rfl) (by kernel_rfl) (by kernel_rfl)) ?_
  intro W base args ds gs before hval0 hW hcnd _
  have hval : ∀ (j : Nat) t v, Try.f3.params[j]? = some t → args[j]? = some v → Value.okWide Try.prog W .any base t v := hval0
  have hW' := hW
  obtain ⟨p, q, hA0, hV, rfl, hfz, hnd⟩ := hW
  have hA : DataW.TrodAll enc Try.prog W 0 (fun _ => true) true Try.f3.params.toList args.toList ds p := hA0
  obtain ⟨rfl, rfl⟩ := trodVars_none hV
  have hAk := hA
  rw [Try.params3] at hA hval
  simp only [List.append_nil] at hW'
  have main : ((Rows.keysOrderSpec.fn H ds).results = [.lit (.bool true)] ∧ (Rows.keysOrderSpec.fn H ds).args = ds ∧ (Rows.keysOrderSpec.fn H ds).vars = []) ∧ Calls Try.prog 3 args W fun e W' => e = .returned (.bool true) ∧ Below W.heap.size W W' := by
    clear hAk hfz hnd hcnd hval0 hW' hA0
    obtain ⟨v1, v2, v3, d1, d2, d3, p1, p2, p3, rfl, rfl, rfl, h1, h2, h3⟩ := trodAll_three hA
    refine ⟨⟨rfl, rfl, rfl⟩, ?_⟩
    obtain ⟨a, rfl, _⟩ := open_flat (en := Key.cells) (ks := [.int .i64, .int .i64, .int .i64, .int .i64]) Try.underlying23 (by kernel_rfl) (by kernel_rfl) key_dec h1 (hval 0 _ _ rfl rfl)
    obtain ⟨b, rfl, _⟩ := open_flat (en := Key.cells) (ks := [.int .i64, .int .i64, .int .i64, .int .i64]) Try.underlying23 (by kernel_rfl) (by kernel_rfl) key_dec h2 (hval 1 _ _ rfl rfl)
    obtain ⟨c, rfl, _⟩ := open_flat (en := Key.cells) (ks := [.int .i64, .int .i64, .int .i64, .int .i64]) Try.underlying23 (by kernel_rfl) (by kernel_rfl) key_dec h3 (hval 2 _ _ rfl rfl)
    exact korder_calls a b c W
  obtain ⟨⟨m1, m2, m3⟩, hc⟩ := main
  refine hc.mono fun e W' ⟨he, hb⟩ => ?_
  subst he
  refine ⟨_, rfl, post_of_below (pa := p) (pv := []) (by simpa using hW') (fun _ _ _ => ?_) (fun sp hsp => ?_) (fun _ _ => ?_) (by simp) hb (ok_one (by kernel_rfl) rfl (okWide_bool_mk Try.underlying4 true))⟩
  · simp only [List.append_nil]; rw [m1]; exact trodAll_mk1 (shut_bool Try.underlying4 true)
  · simp only [List.append_nil]; rw [m2]; exact trodAll_stays Try.laidOut hb Try.f3.params.toList _ _ p (by kernel_rfl) hAk (fun x hx => hW'.lt x (by simpa using hx)) (fun x hx => hsp x (by simpa using hx))
  · simp only [List.append_nil]; rw [m3]; exact rfl
theorem keysOrder_holds : Rows.KeysOrderSaid :=
  OpenClaim.holds_of_wide 3 Try.f3 rfl rfl rfl rfl rfl rfl rfl ⟨rfl, rfl, rfl, rfl, rfl⟩ rfl rfl rfl rfl rfl (by kernel_rfl) Try.func3 (by kernel_rfl)
    (of_decide_eq_true (by kernel_rfl)) (by unfold Func.isWrapper; first | (rw [if_pos (by decide +kernel)]; kernel_rfl) | (rw [if_neg (by decide +kernel)]; exact ⟨rfl, rfl⟩))
    (fun os started H enc _ => keysOrder_lifted os started H enc)
#print axioms keysOrder_holds
end Go.Proofs.Ytejdfgonkfgnfaa

/- boomeranglaw03.IheapOrder answers true for every list of keys, and leaves its argument as it was. Its conditions: none beyond the row's own. -/
import Derived.Test.YtnkngclfbmcmhaaOpen
import Derived.Test.YtnkngclfbmcmhaaW10
namespace Go.Proofs.Ytnkngclfbmcmhaa
open Go.ChangeShapes Go.WideShapes Go.ChangeAt Go.RowKit Mem

theorem Try.own : ownKnob Try.prog.godebug = none := by kernel_rfl
theorem Try.laidOut : laidOutB Try.prog = true := by kernel_rfl
theorem key_dec : ∀ vs, fits [.int .i64, .int .i64, .int .i64, .int .i64] vs = true → (∀ v ∈ vs, wfv v = true) → ∃ k : Key, k.cells = vs ∧ True := by
  intro vs h _
  match vs, h with
  | [.int .i64 a, .int .i64 b, .int .i64 c, .int .i64 d], _ => exact ⟨⟨a, b, c, d⟩, rfl, trivial⟩
  | [], h => simp [fits] at h
  | [_], h => simp [fits] at h
  | [_, _], h => simp [fits] at h
  | [_, _, _], h => simp [fits] at h
  | v0 :: v1 :: v2 :: v3 :: l, h =>
    simp only [fits, Bool.and_eq_true] at h
    obtain ⟨h0, h1, h2, h3, h4⟩ := h
    have e : ∀ v, fit (.int .i64) v = true → ∃ a, v = .int .i64 a := fun v hv => by cases v <;> simp [fit] at hv; subst hv; exact ⟨_, rfl⟩
    obtain ⟨a, rfl⟩ := e _ h0
    obtain ⟨b, rfl⟩ := e _ h1
    obtain ⟨c, rfl⟩ := e _ h2
    obtain ⟨d, rfl⟩ := e _ h3
    cases l with
    | nil => exact ⟨⟨a, b, c, d⟩, rfl, trivial⟩
    | cons _ _ => simp [fits] at h4

set_option maxRecDepth 100000 in
theorem iheapOrder_lifted (os : Os) (started : os.Started) (H : Type) (enc : TypeId × Value → H) :
    ReturnsInHanded {} Try.checked os 3 .any (Rows.iheapOrderSpec.pre6 enc Try.prog Try.f3 Rows.iheapOrderRow.domain false) (Rows.iheapOrderSpec.post enc Try.prog Try.f3 false true false false) := by
  refine returnsInHanded_of_change (C := Try.checked) Try.own started (by kernel_rfl) Try.func3
    (ChangeSpec.witness6 (enc := enc) (C := Try.checked) false ⟨#[], #[.slice none 0 0], []⟩ 8 (by kernel_rfl) (by kernel_rfl) (by kernel_rfl) (by kernel_rfl)) ?_
  intro W base args ds gs before hval0 hW hcnd _
  have hval : ∀ (j : Nat) t v, Try.f3.params[j]? = some t → args[j]? = some v → Value.okWide Try.prog W .any base t v := hval0
  have hW' := hW
  obtain ⟨p, q, hA0, hV, rfl, hfz, hnd⟩ := hW
  have hA : DataW.TrodAll enc Try.prog W 0 (fun _ => true) true Try.f3.params.toList args.toList ds p := hA0
  obtain ⟨rfl, rfl⟩ := trodVars_none hV
  have hAk := hA
  rw [Try.params3] at hA hval
  obtain ⟨v0, d0, hargs, rfl, h0⟩ := trodAll_one hA
  have hl : ∃ l, KeysAt W v0 l := by
    obtain ⟨fuel, hf⟩ := h0
    obtain ⟨a, c, xs, hcs, _, _, _, _, hc⟩ := open_slice_flat (t := 22) (e := 29) Key.cells (fun _ => True) Try.underlying22 (ks := [.int .i64, .int .i64, .int .i64, .int .i64]) (by kernel_rfl) (by kernel_rfl) (by decide) key_dec hf
    refine ⟨xs, a, c, ?_, hc⟩
    obtain ⟨x, len, cap, rfl⟩ := okWide_slice Try.underlying22 (hval 0 22 v0 rfl (by rw [← Array.getElem?_toList, hargs]; rfl))
    simpa [Value.cells] using hcs
  obtain ⟨l, hl⟩ := hl
  obtain rfl : args = #[v0] := by cases args; simpa using hargs
  simp only [List.append_nil] at hW'
  refine (order_calls v0 l W hl).mono fun e W' ⟨he, hb⟩ => ?_
  subst he
  refine ⟨_, rfl, post_of_below (pa := p) (pv := []) hW' (fun _ _ _ => trodAll_mk1 (shut_bool Try.underlying4 true)) (fun sp hsp => ?_) (fun _ _ => rfl) (by simp) hb (ok_one (by kernel_rfl) rfl (okWide_bool_mk Try.underlying4 true))⟩
  exact trodAll_stays Try.laidOut hb Try.f3.params.toList _ _ p (by kernel_rfl) hAk (fun x hx => hW'.lt x hx) hsp

theorem iheapOrder_holds : Rows.IheapOrderSaid :=
  OpenClaim.holds_of_wide 3 Try.f3 rfl rfl rfl rfl rfl rfl rfl ⟨rfl, rfl, rfl, rfl, rfl⟩ rfl rfl rfl rfl rfl (by kernel_rfl) Try.func3 (by kernel_rfl)
    (of_decide_eq_true (by kernel_rfl)) (by unfold Func.isWrapper; first | (rw [if_pos (by decide +kernel)]; kernel_rfl) | (rw [if_neg (by decide +kernel)]; exact ⟨rfl, rfl⟩))
    (fun os started H enc _ => iheapOrder_lifted os started H enc)
#print axioms iheapOrder_holds
end Go.Proofs.Ytnkngclfbmcmhaa

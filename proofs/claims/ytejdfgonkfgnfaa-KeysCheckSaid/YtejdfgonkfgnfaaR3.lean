/- boomeranglaw02.KeysCheck answers true for every two events, and leaves its arguments as they were. Its conditions: none beyond the row's own. -/
import Derived.Test.YtejdfgonkfgnfaaOpen2
import Derived.Test.YtejdfgonkfgnfaaL3
namespace Go.Proofs.Ytejdfgonkfgnfaa
open Go Go.ChangeShapes Go.WideShapes Go.ChangeAt Go.RowKit Mem

set_option maxRecDepth 100000 in
theorem keysCheck_lifted (os : Os) (started : os.Started) (H : Type) (enc : TypeId × Value → H) :
    ReturnsInHanded {} Try.checked os 7 .any (Rows.keysCheckSpec.pre6 enc Try.prog Try.f7 Rows.keysCheckRow.domain false) (Rows.keysCheckSpec.post enc Try.prog Try.f7 false true false false) := by
  refine returnsInHanded_of_change (C := Try.checked) Try.own started (by kernel_rfl) Try.func7
    (ChangeSpec.witness6 (enc := enc) (C := Try.checked) false ⟨#[], #[.agg #[.int .i64 0, .int .i64 0, .int .i64 0, .int .i64 0, .int .i64 0, .int .i64 0, .int .i64 0], .agg #[.int .i64 0, .int .i64 0, .int .i64 0, .int .i64 0, .int .i64 0, .int .i64 0, .int .i64 0]], []⟩ 8 (by kernel_rfl) (by kernel_rfl) (by kernel_rfl) (by kernel_rfl)) ?_
  intro W base args ds gs before hval0 hW hcnd _
  have hval : ∀ (j : Nat) t v, Try.f7.params[j]? = some t → args[j]? = some v → Value.okWide Try.prog W .any base t v := hval0
  have hW' := hW
  obtain ⟨p, q, hA0, hV, rfl, hfz, hnd⟩ := hW
  have hA : DataW.TrodAll enc Try.prog W 0 (fun _ => true) true Try.f7.params.toList args.toList ds p := hA0
  obtain ⟨rfl, rfl⟩ := trodVars_none hV
  have hAk := hA
  rw [Try.params7] at hA hval
  simp only [List.append_nil] at hW'
  have main : ((Rows.keysCheckSpec.fn H ds).results = [.lit (.bool true)] ∧ (Rows.keysCheckSpec.fn H ds).args = ds ∧ (Rows.keysCheckSpec.fn H ds).vars = []) ∧ Calls Try.prog 7 args W fun e W' => e = .returned (.bool true) ∧ Below W.heap.size W W' := by
    clear hAk hfz hnd hcnd hval0 hW' hA0
    obtain ⟨v1, v2, d1, d2, p1, p2, rfl, rfl, rfl, h1, h2⟩ := trodAll_two hA
    refine ⟨⟨rfl, rfl, rfl⟩, ?_⟩
    obtain ⟨a, rfl, _⟩ := open_flat (en := Event.cells) (ks := i7) Try.underlying32 (by kernel_rfl) (by kernel_rfl) event_dec h1 (hval 0 _ _ rfl rfl)
    obtain ⟨b, rfl, _⟩ := open_flat (en := Event.cells) (ks := i7) Try.underlying32 (by kernel_rfl) (by kernel_rfl) event_dec h2 (hval 1 _ _ rfl rfl)
    exact kcheck_calls a b W
  obtain ⟨⟨m1, m2, m3⟩, hc⟩ := main
  refine hc.mono fun e W' ⟨he, hb⟩ => ?_
  subst he
  refine ⟨_, rfl, post_of_below (pa := p) (pv := []) (by simpa using hW') (fun _ _ _ => ?_) (fun sp hsp => ?_) (fun _ _ => ?_) (by simp) hb (ok_one (by kernel_rfl) rfl (okWide_bool_mk Try.underlying4 true))⟩
  · simp only [List.append_nil]; rw [m1]; exact trodAll_mk1 (shut_bool Try.underlying4 true)
  · simp only [List.append_nil]; rw [m2]; exact trodAll_stays Try.laidOut hb Try.f7.params.toList _ _ p (by kernel_rfl) hAk (fun x hx => hW'.lt x (by simpa using hx)) (fun x hx => hsp x (by simpa using hx))
  · simp only [List.append_nil]; rw [m3]; exact rfl
theorem keysCheck_holds : Rows.KeysCheckSaid :=
  OpenClaim.holds_of_wide 7 Try.f7 rfl rfl rfl rfl rfl rfl rfl ⟨rfl, rfl, rfl, rfl, rfl⟩ rfl rfl rfl rfl rfl (by kernel_rfl) Try.func7 (by kernel_rfl)
    (of_decide_eq_true (by kernel_rfl)) (by unfold Func.isWrapper; first | (rw [if_pos (by decide +kernel)]; kernel_rfl) | (rw [if_neg (by decide +kernel)]; exact ⟨rfl, rfl⟩))
    (fun os started H enc _ => keysCheck_lifted os started H enc)
#print axioms keysCheck_holds
end Go.Proofs.Ytejdfgonkfgnfaa

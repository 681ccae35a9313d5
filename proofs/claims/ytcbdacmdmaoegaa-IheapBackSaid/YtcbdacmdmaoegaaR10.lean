/- boomeranglaw03.IheapBack answers true for every list of calls, every key and every thing, and leaves its arguments as they were. Its conditions: none beyond the row's own. -/
import Derived.Test.YtcbdacmdmaoegaaO3
import Derived.Test.YtcbdacmdmaoegaaH7
namespace Go.Proofs.Ytcbdacmdmaoegaa
open Go Go.ChangeShapes Go.WideShapes Go.ChangeAt Go.RowKit Mem

set_option maxRecDepth 100000 in
theorem iheapBack_lifted (os : Os) (started : os.Started) (H : Type) (enc : TypeId × Value → H) :
    ReturnsInHanded {} Try.checked os 5 .any (Rows.iheapBackSpec.pre6 enc Try.prog Try.f5 Rows.iheapBackRow.domain false) (Rows.iheapBackSpec.post enc Try.prog Try.f5 false true false false) := by
  refine returnsInHanded_of_change (C := Try.checked) Try.own started (by kernel_rfl) Try.func5
    (ChangeSpec.witness6 (enc := enc) (C := Try.checked) false ⟨#[], #[.slice none 0 0, .agg #[.int .i64 0, .int .i64 0, .int .i64 0, .int .i64 0], .int .i64 0], []⟩ 8 (by kernel_rfl) (by kernel_rfl) (by kernel_rfl) (by kernel_rfl)) ?_
  intro W base args ds gs before hval0 hW hcnd _
  have hval : ∀ (j : Nat) t v, Try.f5.params[j]? = some t → args[j]? = some v → Value.okWide Try.prog W .any base t v := hval0
  have hW' := hW
  obtain ⟨p, q, hA0, hV, rfl, hfz, hnd⟩ := hW
  have hA : DataW.TrodAll enc Try.prog W 0 (fun _ => true) true Try.f5.params.toList args.toList ds p := hA0
  obtain ⟨rfl, rfl⟩ := trodVars_none hV
  have hAk := hA
  rw [Try.params5] at hA hval
  simp only [List.append_nil] at hW'
  have main : ((Rows.iheapBackSpec.fn H ds).results = [.lit (.bool true)] ∧ (Rows.iheapBackSpec.fn H ds).args = ds ∧ (Rows.iheapBackSpec.fn H ds).vars = []) ∧ Calls Try.prog 5 args W fun e W' => e = .returned (.bool true) ∧ Below W.heap.size W W' := by
    clear hAk hfz hnd hcnd hval0 hW' hA0
    obtain ⟨v1, v2, v3, d1, d2, d3, p1, p2, p3, rfl, rfl, rfl, h1, h2, h3⟩ := trodAll_three hA
    refine ⟨⟨rfl, rfl, rfl⟩, ?_⟩
    obtain ⟨xs, hx⟩ := open_sl (ks := i6) Op3.cells 6 Try.underlying35 (by kernel_rfl) (by kernel_rfl) rfl (by decide) op3_len op3_dec h1 (hval 0 _ _ rfl rfl)
    obtain ⟨k, rfl, _⟩ := open_flat (en := Key.cells) (ks := i4) Try.underlying28 (by kernel_rfl) (by kernel_rfl) key_dec h2 (hval 1 _ _ rfl rfl)
    obtain ⟨n, rfl⟩ := okWide_int Try.underlying3 (hval 2 _ _ rfl rfl)
    exact iheapBack_calls v1 xs k n W _ hx
  obtain ⟨⟨m1, m2, m3⟩, hc⟩ := main
  refine hc.mono fun e W' ⟨he, hb⟩ => ?_
  subst he
  refine ⟨_, rfl, post_of_below (pa := p) (pv := []) (by simpa using hW') (fun _ _ _ => ?_) (fun sp hsp => ?_) (fun _ _ => ?_) (by simp) hb (ok_one (by kernel_rfl) rfl (okWide_bool_mk Try.underlying4 true))⟩
  · simp only [List.append_nil]; rw [m1]; exact trodAll_mk1 (shut_bool Try.underlying4 true)
  · simp only [List.append_nil]; rw [m2]; exact trodAll_stays Try.laidOut hb Try.f5.params.toList _ _ p (by kernel_rfl) hAk (fun x hx => hW'.lt x (by simpa using hx)) (fun x hx => hsp x (by simpa using hx))
  · simp only [List.append_nil]; rw [m3]; exact rfl
theorem iheapBack_holds : Rows.IheapBackSaid :=
  OpenClaim.holds_of_wide 5 Try.f5 rfl rfl rfl rfl rfl rfl rfl ⟨rfl, rfl, rfl, rfl, rfl⟩ rfl rfl rfl rfl rfl (by kernel_rfl) Try.func5 (by kernel_rfl)
    (of_decide_eq_true (by kernel_rfl)) (by unfold Func.isWrapper; first | (rw [if_pos (by decide +kernel)]; kernel_rfl) | (rw [if_neg (by decide +kernel)]; exact ⟨rfl, rfl⟩))
    (fun os started H enc _ => iheapBack_lifted os started H enc)
#print axioms iheapBack_holds
end Go.Proofs.Ytcbdacmdmaoegaa

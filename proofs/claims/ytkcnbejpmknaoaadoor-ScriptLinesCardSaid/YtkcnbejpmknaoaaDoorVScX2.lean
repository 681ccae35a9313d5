/- boomeranglaw21.ScriptLines answers true for every two texts, and leaves its arguments as they were. Its conditions: none beyond the card's own (the listed variables are tied). -/
import Derived.Test.YtkcnbejpmknaoaaDoorV10
import Derived.Test.YtkcnbejpmknaoaaDoorV11
import Derived.ChangeMaps5
namespace Go.Proofs.YtkcnbejpmknaoaaDoor
open Go Go.ChangeShapes Go.WideShapes Go.ChangeAt Go.RowKit Mem Go.ChangeMaps

set_option maxRecDepth 100000 in
theorem scriptLines_lifted (os : Os) (started : os.Started) (H : Type) (enc : TypeId × Value → H) :
    ReturnsInHanded {} Tryd.checked os 4 .any (fun w args => (Rows.scriptLinesSpec.pre enc Tryd.prog Tryd.f4 [] false w args ∧ laidMetH Tryd.prog lay21 w) ∧ sizedMet enc Tryd.prog Tryd.f4 (OpenSpec.ofChange Rows.scriptLinesSpec) false w args) (Rows.scriptLinesSpec.post enc Tryd.prog Tryd.f4 false true false false) := by
  refine frame21 started (by kernel_rfl) Tryd.func4
    (ChangeSpec.witness_shaped (enc := enc) (C := Tryd.checked) (os := os) (X := fun w _ => laidMetH Tryd.prog lay21 w) false (wit21 os) #[.string ⟨#[]⟩, .string ⟨#[]⟩] 8 rfl (shape21 os _) (by kernel_rfl) (by kernel_rfl) (by kernel_rfl) (met21 os _)) ?_
  intro W base args ds gs before hval0 hW hL hsh
  have hval : ∀ (j : Nat) t v, Tryd.f4.params[j]? = some t → args[j]? = some v → Value.okWide Tryd.prog W .any base t v := hval0
  have hW' := hW
  obtain ⟨p, q, hA0, hV, rfl, hfz, hnd⟩ := hW
  have hA : DataW.TrodAll enc Tryd.prog W 0 (fun _ => true) true Tryd.f4.params.toList args.toList ds p := hA0
  obtain ⟨rfl, rfl⟩ := trodVars_none hV
  have hAk := hA
  rw [Tryd.params4] at hA hval
  simp only [List.append_nil] at hW'
  have main : ((Rows.scriptLinesSpec.fn H ds).results = [.lit (.bool true)] ∧ (Rows.scriptLinesSpec.fn H ds).args = ds ∧ (Rows.scriptLinesSpec.fn H ds).vars = []) ∧ Calls Tryd.prog 4 args W fun e W' => e = .returned (.bool true) ∧ Below W.heap.size W W' := by
    clear hAk hfz hnd hval0 hW' hA0
    obtain ⟨v1, v2, d1, d2, p1, p2, rfl, rfl, rfl, h1, h2⟩ := trodAll_two hA
    obtain ⟨s, rfl, rfl, rfl, _⟩ := open_string Tryd.underlying9 (hval 0 _ _ rfl rfl) h1
    obtain ⟨t, rfl, rfl, rfl, _⟩ := open_string Tryd.underlying9 (hval 1 _ _ rfl rfl) h2
    refine ⟨⟨rfl, rfl, rfl⟩, ?_⟩
    obtain ⟨tE, pE, hLib⟩ := lib_of_laid hL hsh
    obtain ⟨l, rfl⟩ : ∃ l, s = str l := ⟨_, str_of s⟩
    obtain ⟨m, rfl⟩ : ∃ l, t = str l := ⟨_, str_of t⟩
    exact lines_calls tE pE l m W _ _ hLib (forms_of_laid hL)
  obtain ⟨⟨m1, m2, m3⟩, hc⟩ := main
  refine hc.mono fun e W' ⟨he, hb⟩ => ?_
  subst he
  refine ⟨_, rfl, post_of_below (pa := p) (pv := []) (by simpa using hW') (fun _ _ _ => ?_) (fun sp hsp => ?_) (fun _ _ => ?_) (by simp) hb (ok_one (by kernel_rfl) rfl (okWide_bool_mk Tryd.underlying4 true))⟩
  · simp only [List.append_nil]; rw [m1]; exact trodAll_mk1 (shut_bool Tryd.underlying4 true)
  · simp only [List.append_nil]; rw [m2]; exact trodAll_stays Tryd.laidOut hb Tryd.f4.params.toList _ _ p (by kernel_rfl) hAk (fun x hx => hW'.lt x (by simpa using hx)) (fun x hx => hsp x (by simpa using hx))
  · simp only [List.append_nil]; rw [m3]; exact rfl
theorem scriptLines_row : Rows.ScriptLinesSaid :=
  OpenClaim.holds_of_wide 4 Tryd.f4 rfl rfl rfl rfl rfl rfl rfl ⟨rfl, rfl, rfl, rfl, rfl⟩ rfl rfl rfl rfl rfl (by kernel_rfl) Tryd.func4 (by kernel_rfl)
    (of_decide_eq_true (by kernel_rfl)) (by unfold Func.isWrapper; first | (rw [if_pos (by decide +kernel)]; kernel_rfl) | (rw [if_neg (by decide +kernel)]; exact ⟨rfl, rfl⟩))
    (fun os started H enc _ => scriptLines_lifted os started H enc)
/-- The tied card. -/
theorem scriptLines_holds : Rows.ScriptLinesCardSaid :=
  Claim7.holds_tied_plain_at .later [] [.data, .data, .data, .data, .sentinel, .sentinel, .data, .pinned] true (true, "281471c1e3fdc6657c590842e6cccd248a3885096aa93dc12f181f41bf29a17a") true
    scriptLines_row (fun _ h => by cases h) (by kernel_rfl) (fun _ h => by cases h) scriptLines_row_tie rfl ⟨rfl, rfl⟩ (by kernel_rfl) rfl
    (fun f fn hf hfn => by
      obtain rfl : f = 4 := Option.some.inj ((show Tryd.prog.funcNamed "boomerang/boomeranglaw21.ScriptLines" = some 4 by kernel_rfl).symm.trans hf) |>.symm
      obtain rfl : fn = Tryd.f4 := (Option.some.inj (Tryd.func4.symm.trans hfn)).symm
      exact ⟨by kernel_rfl, fun j t ht => by
        rw [Tryd.params4] at ht
        have hm : t ∈ [9, 9] := by simpa using Array.mem_of_getElem? ht
        have hall : ([9, 9].all fun u => !Tryd.prog.wantsStandIn u) = true := by kernel_rfl
        exact (show Tryd.prog.wantsStandIn t = false by simpa using List.all_eq_true.1 hall t hm)⟩)
    (by kernel_rfl)
#print axioms scriptLines_holds
end Go.Proofs.YtkcnbejpmknaoaaDoor

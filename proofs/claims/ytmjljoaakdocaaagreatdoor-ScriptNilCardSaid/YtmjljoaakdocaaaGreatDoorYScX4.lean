/- boomeranglaw21.ScriptNil answers true for every text and all numbers, and leaves its arguments as they were. Its conditions: none beyond the card's own (the listed variables are tied). -/
import Derived.Test.YtmjljoaakdocaaaGreatDoorY10
import Derived.Test.YtmjljoaakdocaaaGreatDoorY11
import Derived.ChangeMaps5
namespace Go.Proofs.YtmjljoaakdocaaaGreatDoor
open Go Go.ChangeShapes Go.WideShapes Go.ChangeAt Go.RowKit Mem Go.ChangeMaps

set_option maxRecDepth 100000 in
set_option maxHeartbeats 8000000 in
theorem scriptNil_lifted (os : Os) (started : os.Started) (H : Type) (enc : TypeId × Value → H) :
    ReturnsInHanded {} Tryz.checked os 5 .any (fun w args => (Rows.scriptNilSpec.pre enc Tryz.prog Tryz.f5 [] false w args ∧ laidMetH Tryz.prog lay21 w) ∧ sizedMet enc Tryz.prog Tryz.f5 (OpenSpec.ofChange Rows.scriptNilSpec) false w args) (Rows.scriptNilSpec.post enc Tryz.prog Tryz.f5 false true false false) := by
  refine frame21 started (by kernel_rfl) Tryz.func5
    (ChangeSpec.witness_shaped (enc := enc) (C := Tryz.checked) (os := os) (X := fun w _ => laidMetH Tryz.prog lay21 w) false (wit21 os) #[.string ⟨#[]⟩, .int .i64 0, .int .i64 0] 8 rfl (shape21 os _) (by kernel_rfl) (by kernel_rfl) (by kernel_rfl) (met21 os _)) ?_
  intro W base args ds gs before hval0 hW hL hsh
  have hval : ∀ (j : Nat) t v, Tryz.f5.params[j]? = some t → args[j]? = some v → Value.okWide Tryz.prog W .any base t v := hval0
  have hW' := hW
  obtain ⟨p, q, hA0, hV, rfl, hfz, hnd⟩ := hW
  have hA : DataW.TrodAll enc Tryz.prog W 0 (fun _ => true) true Tryz.f5.params.toList args.toList ds p := hA0
  obtain ⟨rfl, rfl⟩ := trodVars_none hV
  have hAk := hA
  rw [Tryz.params5] at hA hval
  simp only [List.append_nil] at hW'
  have main : ((Rows.scriptNilSpec.fn H ds).results = [.lit (.bool true)] ∧ (Rows.scriptNilSpec.fn H ds).args = ds ∧ (Rows.scriptNilSpec.fn H ds).vars = []) ∧ Calls Tryz.prog 5 args W fun e W' => e = .returned (.bool true) ∧ Below W.heap.size W W' := by
    clear hAk hfz hnd hval0 hW' hA0
    obtain ⟨v1, v2, v3, d1, d2, d3, p1, p2, p3, rfl, rfl, rfl, h1, h2, h3⟩ := trodAll_three hA
    obtain ⟨s, rfl, rfl, rfl, _⟩ := open_string Tryz.underlying9 (hval 0 _ _ rfl rfl) h1
    refine ⟨⟨rfl, rfl, rfl⟩, ?_⟩
    obtain ⟨a, rfl⟩ := okWide_int Tryz.underlying3 (hval 1 _ _ rfl rfl)
    obtain ⟨b, rfl⟩ := okWide_int Tryz.underlying3 (hval 2 _ _ rfl rfl)
    obtain ⟨tE, pE, hLib⟩ := lib_of_laid hL hsh
    obtain ⟨l, rfl⟩ : ∃ l, s = str l := ⟨_, str_of s⟩
    exact snil_calls tE pE l a b W _ _ hLib (forms_of_laid hL)
  obtain ⟨⟨m1, m2, m3⟩, hc⟩ := main
  refine hc.mono fun e W' ⟨he, hb⟩ => ?_
  subst he
  refine ⟨_, rfl, post_of_below (pa := p) (pv := []) (by simpa using hW') (fun _ _ _ => ?_) (fun sp hsp => ?_) (fun _ _ => ?_) (by simp) hb (ok_one (by kernel_rfl) rfl (okWide_bool_mk Tryz.underlying4 true))⟩
  · simp only [List.append_nil]; rw [m1]; exact trodAll_mk1 (shut_bool Tryz.underlying4 true)
  · simp only [List.append_nil]; rw [m2]; exact trodAll_stays Tryz.laidOut hb Tryz.f5.params.toList _ _ p (by kernel_rfl) hAk (fun x hx => hW'.lt x (by simpa using hx)) (fun x hx => hsp x (by simpa using hx))
  · simp only [List.append_nil]; rw [m3]; exact rfl
theorem scriptNil_j1 : (Rows.scriptNilRow.inPlace == Tryz.pinned.checked.prog.inPlace 5) = true := by kernel_rfl
theorem scriptNil_j2 : (Rows.scriptNilRow.unfollowed == Tryz.pinned.checked.prog.unfollowed 5) = true := by kernel_rfl
theorem scriptNil_j3 : (Rows.scriptNilRow.recurses == Tryz.pinned.checked.prog.recurses 5) = true := by kernel_rfl
theorem scriptNil_j4 : (Rows.scriptNilRow.named == Tryz.pinned.checked.prog.varsNamed 5) = true := by kernel_rfl
theorem scriptNil_j5 : laidOutB Tryz.pinned.checked.prog = true := by kernel_rfl
theorem scriptNil_j6 : mapsRowed Tryz.pinned.checked.prog = true := by kernel_rfl
set_option maxRecDepth 100000 in
set_option maxHeartbeats 8000000 in
theorem scriptNil_closed : joinedFacts Tryz.pinned.checked.prog 5 Tryz.f5 Rows.scriptNilSpec Rows.scriptNilRow = true := by
  unfold joinedFacts
  simp only [Bool.and_eq_true]
  and_intros
  all_goals first | with_reducible exact scriptNil_j1 | with_reducible exact scriptNil_j2 | with_reducible exact scriptNil_j3 | with_reducible exact scriptNil_j4 | with_reducible exact scriptNil_j5 | with_reducible exact scriptNil_j6 | kernel_rfl
theorem scriptNil_g1 : false = Rows.scriptNilRow.goesBy Tryz.pinned.checked.prog := by kernel_rfl
theorem scriptNil_row : Rows.ScriptNilSaid :=
  OpenClaim.holds_of_wide 5 Tryz.f5 rfl rfl rfl rfl rfl rfl rfl ⟨rfl, rfl, rfl, rfl, rfl⟩ rfl rfl rfl rfl rfl (by kernel_rfl) Tryz.func5 scriptNil_closed
    (of_decide_eq_true (by kernel_rfl)) (by unfold Func.isWrapper; first | (rw [if_pos (by decide +kernel)]; kernel_rfl) | (rw [if_neg (by decide +kernel)]; exact ⟨rfl, rfl⟩))
    (fun os started H enc _ => scriptNil_lifted os started H enc)
/-- The tied card. -/
theorem scriptNil_holds : Rows.ScriptNilCardSaid :=
  Claim7.holds_tied_plain_at .later [] [.data, .data, .data, .data, .sentinel, .sentinel, .data, .data, .pinned] true (true, "d66bf73ebcca11b2d2e54ec881b25a9ff7e1581ad12f0c71b5e4a5cf8550cfff") true
    scriptNil_row (fun _ h => by cases h) (by kernel_rfl) (fun _ h => by cases h) scriptNil_row_tie rfl ⟨rfl, rfl⟩ (by kernel_rfl) rfl
    (fun f fn hf hfn => by
      obtain rfl : f = 5 := Option.some.inj ((show Tryz.prog.funcNamed "boomerang/boomeranglaw21.ScriptNil" = some 5 by kernel_rfl).symm.trans hf) |>.symm
      obtain rfl : fn = Tryz.f5 := (Option.some.inj (Tryz.func5.symm.trans hfn)).symm
      exact ⟨by kernel_rfl, fun j t ht => by
        rw [Tryz.params5] at ht
        have hm : t ∈ [9, 3, 3] := by simpa using Array.mem_of_getElem? ht
        have hall : ([9, 3, 3].all fun u => !Tryz.prog.wantsStandIn u) = true := by kernel_rfl
        exact (show Tryz.prog.wantsStandIn t = false by simpa using List.all_eq_true.1 hall t hm)⟩)
    scriptNil_g1
#print axioms scriptNil_holds
end Go.Proofs.YtmjljoaakdocaaaGreatDoor

import Derived.Test.YtmjljoaakdocaaaGreatDoorZ06
import Derived.Test.YtmjljoaakdocaaaGreatDoorZ31
--split
/- boomeranglaw19.KernelNil answers true for every thing to do, and leaves its argument as it was. Its conditions: none beyond the card's own (the table of ops is tied). -/
namespace Go.Proofs.YtmjljoaakdocaaaGreatDoor
open Go Go.ChangeShapes Go.WideShapes Go.ChangeAt Go.RowKit Mem

abbrev i3b : List TypeDesc := [.int .i64, .int .i64, .int .i64]
theorem doth_dec : ∀ vs, fits i3b vs = true → (∀ v ∈ vs, wfv v = true) → ∃ k : Int × Int × Int, dothE k = vs ∧ True := by
  intro vs h0 hw
  obtain ⟨a, v1, rfl, h1⟩ := fits_cons_int h0
  obtain ⟨b, v2, rfl, h2⟩ := fits_cons_int h1
  obtain ⟨c, v3, rfl, h3⟩ := fits_cons_int h2
  obtain rfl := List.eq_nil_of_length_eq_zero (fits_length h3)
  exact ⟨(a, b, c), rfl, trivial⟩
set_option maxRecDepth 100000 in
theorem kernelNil_lifted (os : Os) (started : os.Started) (H : Type) (enc : TypeId × Value → H) :
    ReturnsInHanded {} Tryz.checked os 3 .any (fun w args => (Rows.kernelNilSpec.pre enc Tryz.prog Tryz.f3 [] false w args ∧ laidMetH Tryz.prog tabLaid w) ∧ sizedMet enc Tryz.prog Tryz.f3 (OpenSpec.ofChange Rows.kernelNilSpec) false w args) (Rows.kernelNilSpec.post enc Tryz.prog Tryz.f3 false true false false) := by
  refine returnsInHanded_of_change_and (C := Tryz.checked) (X := fun w _ => laidMetH Tryz.prog tabLaid w) (fun _ _ _ hh h => h.of_heap hh) Tryz.own started (by kernel_rfl) Tryz.func3
    (ChangeSpec.witness_shaped (enc := enc) (C := Tryz.checked) (os := os) (X := fun w _ => laidMetH Tryz.prog tabLaid w) false (witT os) #[.agg #[.int .i64 0, .int .i64 0, .int .i64 0]] 8 rfl (shapeT os _) (by kernel_rfl) (by kernel_rfl) (by kernel_rfl) (metT os _)) ?_
  intro W base args ds gs before hval0 hW _ _ hL _
  have hval : ∀ (j : Nat) t v, Tryz.f3.params[j]? = some t → args[j]? = some v → Value.okWide Tryz.prog W .any base t v := hval0
  have hW' := hW
  obtain ⟨p, q, hA0, hV, rfl, hfz, hnd⟩ := hW
  have hA : DataW.TrodAll enc Tryz.prog W 0 (fun _ => true) true Tryz.f3.params.toList args.toList ds p := hA0
  obtain ⟨rfl, rfl⟩ := trodVars_none hV
  have hAk := hA
  rw [Tryz.params3] at hA hval
  simp only [List.append_nil] at hW'
  have hTab := tab_of_laid hL
  have main : ((Rows.kernelNilSpec.fn H ds).results = [.lit (.bool true)] ∧ (Rows.kernelNilSpec.fn H ds).args = ds ∧ (Rows.kernelNilSpec.fn H ds).vars = []) ∧ Calls Tryz.prog 3 args W fun e W' => e = .returned (.bool true) ∧ Below W.heap.size W W' := by
    clear hAk hfz hnd hval0 hW' hA0 hL
    obtain ⟨v1, d1, rfl, rfl, h1⟩ := trodAll_one hA
    refine ⟨⟨rfl, rfl, rfl⟩, ?_⟩
    obtain ⟨x, rfl, _⟩ := open_flat (en := dothE) (ks := i3b) Tryz.underlying23 (by kernel_rfl) (by kernel_rfl) doth_dec h1 (hval 0 _ _ rfl rfl)
    exact kernelNil_calls x W _ hTab
  obtain ⟨⟨m1, m2, m3⟩, hc⟩ := main
  refine hc.mono fun e W' ⟨he, hb⟩ => ?_
  subst he
  refine ⟨_, rfl, post_of_below (pa := p) (pv := []) (by simpa using hW') (fun _ _ _ => ?_) (fun sp hsp => ?_) (fun _ _ => ?_) (by simp) hb (ok_one (by kernel_rfl) rfl (okWide_bool_mk Tryz.underlying4 true))⟩
  · simp only [List.append_nil]; rw [m1]; exact trodAll_mk1 (shut_bool Tryz.underlying4 true)
  · simp only [List.append_nil]; rw [m2]; exact trodAll_stays Tryz.laidOut hb Tryz.f3.params.toList _ _ p (by kernel_rfl) hAk (fun x hx => hW'.lt x (by simpa using hx)) (fun x hx => hsp x (by simpa using hx))
  · simp only [List.append_nil]; rw [m3]; exact rfl
theorem kernelNil_j1 : (Rows.kernelNilRow.inPlace == Tryz.pinned.checked.prog.inPlace 3) = true := by kernel_rfl
theorem kernelNil_j2 : (Rows.kernelNilRow.unfollowed == Tryz.pinned.checked.prog.unfollowed 3) = true := by kernel_rfl
theorem kernelNil_j3 : (Rows.kernelNilRow.recurses == Tryz.pinned.checked.prog.recurses 3) = true := by kernel_rfl
theorem kernelNil_j4 : (Rows.kernelNilRow.named == Tryz.pinned.checked.prog.varsNamed 3) = true := by kernel_rfl
theorem kernelNil_j5 : laidOutB Tryz.pinned.checked.prog = true := by kernel_rfl
theorem kernelNil_j6 : mapsRowed Tryz.pinned.checked.prog = true := by kernel_rfl
set_option maxRecDepth 100000 in
set_option maxHeartbeats 8000000 in
theorem kernelNil_closed : joinedFacts Tryz.pinned.checked.prog 3 Tryz.f3 Rows.kernelNilSpec Rows.kernelNilRow = true := by
  unfold joinedFacts
  simp only [Bool.and_eq_true]
  and_intros
  all_goals first | with_reducible exact kernelNil_j1 | with_reducible exact kernelNil_j2 | with_reducible exact kernelNil_j3 | with_reducible exact kernelNil_j4 | with_reducible exact kernelNil_j5 | with_reducible exact kernelNil_j6 | kernel_rfl
theorem kernelNil_g1 : false = Rows.kernelNilRow.goesBy Tryz.pinned.checked.prog := by kernel_rfl
theorem kernelNil_row : Rows.KernelNilSaid :=
  OpenClaim.holds_of_wide 3 Tryz.f3 rfl rfl rfl rfl rfl rfl rfl ⟨rfl, rfl, rfl, rfl, rfl⟩ rfl rfl rfl rfl rfl (by kernel_rfl) Tryz.func3 kernelNil_closed
    (of_decide_eq_true (by kernel_rfl)) (by unfold Func.isWrapper; first | (rw [if_pos (by decide +kernel)]; kernel_rfl) | (rw [if_neg (by decide +kernel)]; exact ⟨rfl, rfl⟩))
    (fun os started H enc _ => kernelNil_lifted os started H enc)
/-- The tied card. -/
theorem kernelNil_holds : Rows.KernelNilCardSaid :=
  Claim7.holds_tied_plain_at .later [] [.data] true (true, "d66bf73ebcca11b2d2e54ec881b25a9ff7e1581ad12f0c71b5e4a5cf8550cfff") true
    kernelNil_row (fun _ h => by cases h) (by kernel_rfl) (fun _ h => by cases h) kernelNil_row_tie rfl ⟨rfl, rfl⟩ (by kernel_rfl) rfl
    (fun f fn hf hfn => by
      obtain rfl : f = 3 := Option.some.inj ((show Tryz.prog.funcNamed "boomerang/boomeranglaw19.KernelNil" = some 3 by kernel_rfl).symm.trans hf) |>.symm
      obtain rfl : fn = Tryz.f3 := (Option.some.inj (Tryz.func3.symm.trans hfn)).symm
      exact ⟨by kernel_rfl, fun j t ht => by
        rw [Tryz.params3] at ht
        have hm : t ∈ [23] := by simpa using Array.mem_of_getElem? ht
        have hall : ([23].all fun u => !Tryz.prog.wantsStandIn u) = true := by kernel_rfl
        exact (show Tryz.prog.wantsStandIn t = false by simpa using List.all_eq_true.1 hall t hm)⟩)
    kernelNil_g1
#print axioms kernelNil_holds
end Go.Proofs.YtmjljoaakdocaaaGreatDoor

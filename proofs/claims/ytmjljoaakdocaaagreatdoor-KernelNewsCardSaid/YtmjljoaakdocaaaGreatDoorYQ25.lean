import Derived.Test.YtmjljoaakdocaaaGreatDoorY08
import Derived.Test.YtmjljoaakdocaaaGreatDoorY09
import Derived.Test.YtmjljoaakdocaaaGreatDoorY36
--split
/- boomeranglaw19.KernelNews answers true for every configuration of a model and of a kernel, and leaves its arguments as they were. Its conditions: none beyond the card's own (the table of ops is tied). -/
namespace Go.Proofs.YtmjljoaakdocaaaGreatDoor
open Go Go.ChangeShapes Go.WideShapes Go.ChangeAt Go.RowKit Mem

abbrev i6b : List TypeDesc := [.int .i64, .int .i64, .bool, .int .i64, .int .i64, .int .i64]
def KcE.cells (d : KcE) : List Value := [.int .i64 d.workers, .int .i64 d.every, .bool d.lazy, .int .i64 d.window, .int .i64 d.room, .int .i64 d.res]
theorem kce_dec : ∀ vs, fits i6b vs = true → (∀ v ∈ vs, wfv v = true) → ∃ k : KcE, k.cells = vs ∧ True := by
  intro vs h0 _
  obtain ⟨a, v1, rfl, h1⟩ := fits_cons_int h0
  obtain ⟨b, v2, rfl, h2⟩ := fits_cons_int h1
  obtain ⟨z0, v3, rfl, hz, h3⟩ := fits_cons h2
  obtain ⟨z, rfl⟩ := fit_bool hz
  obtain ⟨c, v4, rfl, h4⟩ := fits_cons_int h3
  obtain ⟨d, v5, rfl, h5⟩ := fits_cons_int h4
  obtain ⟨e, v6, rfl, h6⟩ := fits_cons_int h5
  obtain rfl := List.eq_nil_of_length_eq_zero (fits_length h6)
  exact ⟨⟨a, b, z, c, d, e⟩, rfl, trivial⟩
set_option maxRecDepth 100000 in
theorem kernelNews_lifted (os : Os) (started : os.Started) (H : Type) (enc : TypeId × Value → H) :
    ReturnsInHanded {} Tryz.checked os 4 .any (fun w args => (Rows.kernelNewsSpec.pre enc Tryz.prog Tryz.f4 [] false w args ∧ laidMetH Tryz.prog tabLaid w) ∧ sizedMet enc Tryz.prog Tryz.f4 (OpenSpec.ofChange Rows.kernelNewsSpec) false w args) (Rows.kernelNewsSpec.post enc Tryz.prog Tryz.f4 false true false false) := by
  refine returnsInHanded_of_change_and (C := Tryz.checked) (X := fun w _ => laidMetH Tryz.prog tabLaid w) (fun _ _ _ hh h => h.of_heap hh) Tryz.own started (by kernel_rfl) Tryz.func4
    (ChangeSpec.witness_shaped (enc := enc) (C := Tryz.checked) (os := os) (X := fun w _ => laidMetH Tryz.prog tabLaid w) false (witT os) #[.agg #[.slice none 0 0, .slice none 0 0, .slice none 0 0, .int .i64 0, .int .i64 0, .int .i64 0], .agg #[.int .i64 0, .int .i64 0, .bool false, .int .i64 0, .int .i64 0, .int .i64 0]] 8 rfl (shapeT os _) (by kernel_rfl) (by kernel_rfl) (by kernel_rfl) (metT os _)) ?_
  intro W base args ds gs before hval0 hW _ hWt hL _
  have hval : ∀ (j : Nat) t v, Tryz.f4.params[j]? = some t → args[j]? = some v → Value.okWide Tryz.prog W .any base t v := hval0
  have hW' := hW
  obtain ⟨p, q, hA0, hV, rfl, hfz, hnd⟩ := hW
  have hA : DataW.TrodAll enc Tryz.prog W 0 (fun _ => true) true Tryz.f4.params.toList args.toList ds p := hA0
  obtain ⟨rfl, rfl⟩ := trodVars_none hV
  have hAk := hA
  rw [Tryz.params4] at hA hval hWt
  simp only [List.append_nil] at hW'
  have hTab := tab_of_laid hL
  have main : ((Rows.kernelNewsSpec.fn H ds).results = [.lit (.bool true)] ∧ (Rows.kernelNewsSpec.fn H ds).args = ds ∧ (Rows.kernelNewsSpec.fn H ds).vars = []) ∧ Calls Tryz.prog 4 args W fun e W' => e = .returned (.bool true) ∧ Below W.heap.size W W' := by
    clear hAk hfz hnd hval0 hW' hA0 hL
    obtain ⟨v1, v2, d1, d2, p1, p2, rfl, rfl, rfl, h1, h2⟩ := trodAll_two hA
    refine ⟨⟨rfl, rfl, rfl⟩, ?_⟩
    obtain ⟨vs, hs, c, rfl, hc, hw, hwb⟩ := open_cfgB h1 (hval 0 _ _ rfl rfl) (light_two hWt).1
    obtain ⟨x, rfl, _⟩ := open_flat (en := KcE.cells) (ks := i6b) Tryz.underlying29 (by kernel_rfl) (by kernel_rfl) kce_dec h2 (hval 1 _ _ rfl rfl)
    exact news_law x vs hs c W _ _ hc hw hwb hTab
  obtain ⟨⟨m1, m2, m3⟩, hc⟩ := main
  refine hc.mono fun e W' ⟨he, hb⟩ => ?_
  subst he
  refine ⟨_, rfl, post_of_below (pa := p) (pv := []) (by simpa using hW') (fun _ _ _ => ?_) (fun sp hsp => ?_) (fun _ _ => ?_) (by simp) hb (ok_one (by kernel_rfl) rfl (okWide_bool_mk Tryz.underlying4 true))⟩
  · simp only [List.append_nil]; rw [m1]; exact trodAll_mk1 (shut_bool Tryz.underlying4 true)
  · simp only [List.append_nil]; rw [m2]; exact trodAll_stays Tryz.laidOut hb Tryz.f4.params.toList _ _ p (by kernel_rfl) hAk (fun x hx => hW'.lt x (by simpa using hx)) (fun x hx => hsp x (by simpa using hx))
  · simp only [List.append_nil]; rw [m3]; exact rfl
theorem kernelNews_j1 : (Rows.kernelNewsRow.inPlace == Tryz.pinned.checked.prog.inPlace 4) = true := by kernel_rfl
theorem kernelNews_j2 : (Rows.kernelNewsRow.unfollowed == Tryz.pinned.checked.prog.unfollowed 4) = true := by kernel_rfl
theorem kernelNews_j3 : (Rows.kernelNewsRow.recurses == Tryz.pinned.checked.prog.recurses 4) = true := by kernel_rfl
theorem kernelNews_j4 : (Rows.kernelNewsRow.named == Tryz.pinned.checked.prog.varsNamed 4) = true := by kernel_rfl
theorem kernelNews_j5 : laidOutB Tryz.pinned.checked.prog = true := by kernel_rfl
theorem kernelNews_j6 : mapsRowed Tryz.pinned.checked.prog = true := by kernel_rfl
set_option maxRecDepth 100000 in
set_option maxHeartbeats 8000000 in
theorem kernelNews_closed : joinedFacts Tryz.pinned.checked.prog 4 Tryz.f4 Rows.kernelNewsSpec Rows.kernelNewsRow = true := by
  unfold joinedFacts
  simp only [Bool.and_eq_true]
  and_intros
  all_goals first | with_reducible exact kernelNews_j1 | with_reducible exact kernelNews_j2 | with_reducible exact kernelNews_j3 | with_reducible exact kernelNews_j4 | with_reducible exact kernelNews_j5 | with_reducible exact kernelNews_j6 | kernel_rfl
theorem kernelNews_g1 : false = Rows.kernelNewsRow.goesBy Tryz.pinned.checked.prog := by kernel_rfl
theorem kernelNews_row : Rows.KernelNewsSaid :=
  OpenClaim.holds_of_wide 4 Tryz.f4 rfl rfl rfl rfl rfl rfl rfl ⟨rfl, rfl, rfl, rfl, rfl⟩ rfl rfl rfl rfl rfl (by kernel_rfl) Tryz.func4 kernelNews_closed
    (of_decide_eq_true (by kernel_rfl)) (by unfold Func.isWrapper; first | (rw [if_pos (by decide +kernel)]; kernel_rfl) | (rw [if_neg (by decide +kernel)]; exact ⟨rfl, rfl⟩))
    (fun os started H enc _ => kernelNews_lifted os started H enc)
/-- The tied card. -/
theorem kernelNews_holds : Rows.KernelNewsCardSaid :=
  Claim7.holds_tied_plain_at .later [] [.data] true (true, "d66bf73ebcca11b2d2e54ec881b25a9ff7e1581ad12f0c71b5e4a5cf8550cfff") true
    kernelNews_row (fun _ h => by cases h) (by kernel_rfl) (fun _ h => by cases h) kernelNews_row_tie rfl ⟨rfl, rfl⟩ (by kernel_rfl) rfl
    (fun f fn hf hfn => by
      obtain rfl : f = 4 := Option.some.inj ((show Tryz.prog.funcNamed "boomerang/boomeranglaw19.KernelNews" = some 4 by kernel_rfl).symm.trans hf) |>.symm
      obtain rfl : fn = Tryz.f4 := (Option.some.inj (Tryz.func4.symm.trans hfn)).symm
      exact ⟨by kernel_rfl, fun j t ht => by
        rw [Tryz.params4] at ht
        have hm : t ∈ [43, 29] := by simpa using Array.mem_of_getElem? ht
        have hall : ([43, 29].all fun u => !Tryz.prog.wantsStandIn u) = true := by kernel_rfl
        exact (show Tryz.prog.wantsStandIn t = false by simpa using List.all_eq_true.1 hall t hm)⟩)
    kernelNews_g1
#print axioms kernelNews_holds
end Go.Proofs.YtmjljoaakdocaaaGreatDoor

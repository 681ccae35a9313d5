/- boomeranglaw16.FossilNil answers true for every time and every event, and leaves its arguments as they were. Its conditions: none beyond the card's own (the table of ops is tied). -/
import Derived.Test.YtegcghofkbdgiaaDoorR06
import Derived.Test.YtegcghofkbdgiaaDoorR21
namespace Go.Proofs.YtegcghofkbdgiaaDoor
open Go Go.ChangeShapes Go.WideShapes Go.ChangeAt Go.RowKit Mem

set_option maxRecDepth 100000 in
theorem fossilNil_lifted (os : Os) (started : os.Started) (H : Type) (enc : TypeId × Value → H) :
    ReturnsInHanded {} Tryd.checked os 5 .any (fun w args => (Rows.fossilNilSpec.pre enc Tryd.prog Tryd.f5 [] false w args ∧ laidMetH Tryd.prog tabLaid w) ∧ sizedMet enc Tryd.prog Tryd.f5 (OpenSpec.ofChange Rows.fossilNilSpec) false w args) (Rows.fossilNilSpec.post enc Tryd.prog Tryd.f5 false true false false) := by
  refine returnsInHanded_of_change_and (C := Tryd.checked) (X := fun w _ => laidMetH Tryd.prog tabLaid w) (fun _ _ _ hh h => h.of_heap hh) Tryd.own started (by kernel_rfl) Tryd.func5
    (ChangeSpec.witness_shaped (enc := enc) (C := Tryd.checked) (os := os) (X := fun w _ => laidMetH Tryd.prog tabLaid w) false (World.doorLaid Tryd.prog 59 os) #[.int .i64 0, .agg #[.int .i64 0, .int .i64 0, .int .i64 0, .int .i64 0, .int .i64 0, .int .i64 0, .int .i64 0]] 8 rfl (World.shaped_of_RefB (by kernel_rfl) (by kernel_rfl)) (by kernel_rfl) (by kernel_rfl) (by kernel_rfl) (door_met os _)) ?_
  intro W base args ds gs before hval0 hW _ _ hL _
  have hval : ∀ (j : Nat) t v, Tryd.f5.params[j]? = some t → args[j]? = some v → Value.okWide Tryd.prog W .any base t v := hval0
  have hW' := hW
  obtain ⟨p, q, hA0, hV, rfl, hfz, hnd⟩ := hW
  have hA : DataW.TrodAll enc Tryd.prog W 0 (fun _ => true) true Tryd.f5.params.toList args.toList ds p := hA0
  obtain ⟨rfl, rfl⟩ := trodVars_none hV
  have hAk := hA
  rw [Tryd.params5] at hA hval
  simp only [List.append_nil] at hW'
  have hTab := tab_of_laid hL
  have main : ((Rows.fossilNilSpec.fn H ds).results = [.lit (.bool true)] ∧ (Rows.fossilNilSpec.fn H ds).args = ds ∧ (Rows.fossilNilSpec.fn H ds).vars = []) ∧ Calls Tryd.prog 5 args W fun e W' => e = .returned (.bool true) ∧ Below W.heap.size W W' := by
    clear hAk hfz hnd hval0 hW' hA0 hL
    obtain ⟨v1, v2, d1, d2, p1, p2, rfl, rfl, rfl, h1, h2⟩ := trodAll_two hA
    refine ⟨⟨rfl, rfl, rfl⟩, ?_⟩
    obtain ⟨t, rfl⟩ := okWide_int Tryd.underlying3 (hval 0 _ _ rfl rfl)
    obtain ⟨x, rfl, _⟩ := open_flat (en := Event.cells) (ks := i7) Tryd.underlying52 (by kernel_rfl) (by kernel_rfl) event_dec h2 (hval 1 _ _ rfl rfl)
    exact fossilNil_calls t x W _ hTab
  obtain ⟨⟨m1, m2, m3⟩, hc⟩ := main
  refine hc.mono fun e W' ⟨he, hb⟩ => ?_
  subst he
  refine ⟨_, rfl, post_of_below (pa := p) (pv := []) (by simpa using hW') (fun _ _ _ => ?_) (fun sp hsp => ?_) (fun _ _ => ?_) (by simp) hb (ok_one (by kernel_rfl) rfl (okWide_bool_mk Tryd.underlying4 true))⟩
  · simp only [List.append_nil]; rw [m1]; exact trodAll_mk1 (shut_bool Tryd.underlying4 true)
  · simp only [List.append_nil]; rw [m2]; exact trodAll_stays Tryd.laidOut hb Tryd.f5.params.toList _ _ p (by kernel_rfl) hAk (fun x hx => hW'.lt x (by simpa using hx)) (fun x hx => hsp x (by simpa using hx))
  · simp only [List.append_nil]; rw [m3]; exact rfl
theorem fossilNil_row : Rows.FossilNilSaid :=
  OpenClaim.holds_of_wide 5 Tryd.f5 rfl rfl rfl rfl rfl rfl rfl ⟨rfl, rfl, rfl, rfl, rfl⟩ rfl rfl rfl rfl rfl (by kernel_rfl) Tryd.func5 (by kernel_rfl)
    (of_decide_eq_true (by kernel_rfl)) (by unfold Func.isWrapper; first | (rw [if_pos (by decide +kernel)]; kernel_rfl) | (rw [if_neg (by decide +kernel)]; exact ⟨rfl, rfl⟩))
    (fun os started H enc _ => fossilNil_lifted os started H enc)
/-- The tied card. -/
theorem fossilNil_holds : Rows.FossilNilCardSaid :=
  Claim7.holds_tied_plain_at .later [] [.data] true (true, "181ba7f4cfef3a62954d6f3c451c6777532c3224527d2b2744aa725420318df0") false
    fossilNil_row (fun _ h => by cases h) (by kernel_rfl) (fun _ h => by cases h) fossilNil_row_tie rfl ⟨rfl, rfl⟩ (by kernel_rfl) rfl
    (fun f fn hf hfn => by
      obtain rfl : f = 5 := Option.some.inj ((show Tryd.prog.funcNamed "boomerang/boomeranglaw16.FossilNil" = some 5 by kernel_rfl).symm.trans hf) |>.symm
      obtain rfl : fn = Tryd.f5 := (Option.some.inj (Tryd.func5.symm.trans hfn)).symm
      exact ⟨by kernel_rfl, fun j t ht => by
        rw [Tryd.params5] at ht
        have hm : t ∈ [3, 52] := by simpa using Array.mem_of_getElem? ht
        have hall : ([3, 52].all fun u => !Tryd.prog.wantsStandIn u) = true := by kernel_rfl
        exact (show Tryd.prog.wantsStandIn t = false by simpa using List.all_eq_true.1 hall t hm)⟩)
    (by kernel_rfl)
#print axioms fossilNil_holds
end Go.Proofs.YtegcghofkbdgiaaDoor

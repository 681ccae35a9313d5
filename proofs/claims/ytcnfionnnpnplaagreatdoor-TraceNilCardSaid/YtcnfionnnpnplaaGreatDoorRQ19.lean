/- boomeranglaw20.TraceNil answers true for all batches, every time and every number, and leaves its arguments as they were. Its conditions: none beyond the card's own (the table of ops is tied). -/
import Derived.Test.YtcnfionnnpnplaaGreatDoorR06
import Derived.Test.YtcnfionnnpnplaaGreatDoorR20
import Derived.Test.YtcnfionnnpnplaaGreatDoorR35
namespace Go.Proofs.YtcnfionnnpnplaaGreatDoor
open Go Go.ChangeShapes Go.WideShapes Go.ChangeAt Go.RowKit Mem

set_option maxRecDepth 100000 in
theorem traceNil_lifted (os : Os) (started : os.Started) (H : Type) (enc : TypeId × Value → H) :
    ReturnsInHanded {} Tryz.checked os 5 .any (fun w args => (Rows.traceNilSpec.pre enc Tryz.prog Tryz.f5 [] false w args ∧ laidMetH Tryz.prog tabLaid w) ∧ sizedMet enc Tryz.prog Tryz.f5 (OpenSpec.ofChange Rows.traceNilSpec) false w args) (Rows.traceNilSpec.post enc Tryz.prog Tryz.f5 false true false false) := by
  refine returnsInHanded_of_change_and (C := Tryz.checked) (X := fun w _ => laidMetH Tryz.prog tabLaid w) (fun _ _ _ hh h => h.of_heap hh) Tryz.own started (by kernel_rfl) Tryz.func5
    (ChangeSpec.witness_shaped (enc := enc) (C := Tryz.checked) (os := os) (X := fun w _ => laidMetH Tryz.prog tabLaid w) false (World.doorLaid Tryz.prog 59 os) #[.slice none 0 0, .int .i64 0, .int .i64 0] 8 rfl (World.shaped_of_RefB (by kernel_rfl) (by kernel_rfl)) (by kernel_rfl) (by kernel_rfl) (by kernel_rfl) (door_met os _)) ?_
  intro W base args ds gs before hval0 hW _ _ hL _
  have hval : ∀ (j : Nat) t v, Tryz.f5.params[j]? = some t → args[j]? = some v → Value.okWide Tryz.prog W .any base t v := hval0
  have hW' := hW
  obtain ⟨p, q, hA0, hV, rfl, hfz, hnd⟩ := hW
  have hA : DataW.TrodAll enc Tryz.prog W 0 (fun _ => true) true Tryz.f5.params.toList args.toList ds p := hA0
  obtain ⟨rfl, rfl⟩ := trodVars_none hV
  have hAk := hA
  rw [Tryz.params5] at hA hval
  simp only [List.append_nil] at hW'
  have hTab := tab_of_laid hL
  have main : ((Rows.traceNilSpec.fn H ds).results = [.lit (.bool true)] ∧ (Rows.traceNilSpec.fn H ds).args = ds ∧ (Rows.traceNilSpec.fn H ds).vars = []) ∧ Calls Tryz.prog 5 args W fun e W' => e = .returned (.bool true) ∧ Below W.heap.size W W' := by
    clear hAk hfz hnd hval0 hW' hA0 hL
    obtain ⟨v1, v2, v3, d1, d2, d3, p1, p2, p3, rfl, rfl, rfl, h1, h2, h3⟩ := trodAll_three hA
    refine ⟨⟨rfl, rfl, rfl⟩, ?_⟩
    obtain ⟨ad, c, l, rfl, a1, a2, a3, hn, hn2⟩ := open_bats h1 (hval 0 _ _ rfl rfl)
    obtain ⟨u, rfl⟩ := okWide_int Tryz.underlying3 (hval 1 _ _ rfl rfl)
    obtain ⟨m, rfl⟩ := okWide_int Tryz.underlying3 (hval 2 _ _ rfl rfl)
    exact traceNil_calls ad c l u m W _ _ _ _ a1 a2 a3 hTab (Nat.le_trans hn (by decide)) (fun x hx => Nat.le_trans (hn2 x hx).1 (by decide))
  obtain ⟨⟨m1, m2, m3⟩, hc⟩ := main
  refine hc.mono fun e W' ⟨he, hb⟩ => ?_
  subst he
  refine ⟨_, rfl, post_of_below (pa := p) (pv := []) (by simpa using hW') (fun _ _ _ => ?_) (fun sp hsp => ?_) (fun _ _ => ?_) (by simp) hb (ok_one (by kernel_rfl) rfl (okWide_bool_mk Tryz.underlying4 true))⟩
  · simp only [List.append_nil]; rw [m1]; exact trodAll_mk1 (shut_bool Tryz.underlying4 true)
  · simp only [List.append_nil]; rw [m2]; exact trodAll_stays Tryz.laidOut hb Tryz.f5.params.toList _ _ p (by kernel_rfl) hAk (fun x hx => hW'.lt x (by simpa using hx)) (fun x hx => hsp x (by simpa using hx))
  · simp only [List.append_nil]; rw [m3]; exact rfl
theorem traceNil_row : Rows.TraceNilSaid :=
  OpenClaim.holds_of_wide 5 Tryz.f5 rfl rfl rfl rfl rfl rfl rfl ⟨rfl, rfl, rfl, rfl, rfl⟩ rfl rfl rfl rfl rfl (by kernel_rfl) Tryz.func5 (by kernel_rfl)
    (of_decide_eq_true (by kernel_rfl)) (by unfold Func.isWrapper; first | (rw [if_pos (by decide +kernel)]; kernel_rfl) | (rw [if_neg (by decide +kernel)]; exact ⟨rfl, rfl⟩))
    (fun os started H enc _ => traceNil_lifted os started H enc)
/-- The tied card. -/
theorem traceNil_holds : Rows.TraceNilCardSaid :=
  Claim7.holds_tied_plain_at .later [] [.data] true (true, "7fe83b1d6d1ccb1597622994b3a2d49022f23364398c63ec948c52f776608756") false
    traceNil_row (fun _ h => by cases h) (by kernel_rfl) (fun _ h => by cases h) traceNil_row_tie rfl ⟨rfl, rfl⟩ (by kernel_rfl) rfl
    (fun f fn hf hfn => by
      obtain rfl : f = 5 := Option.some.inj ((show Tryz.prog.funcNamed "boomerang/boomeranglaw20.TraceNil" = some 5 by kernel_rfl).symm.trans hf) |>.symm
      obtain rfl : fn = Tryz.f5 := (Option.some.inj (Tryz.func5.symm.trans hfn)).symm
      exact ⟨by kernel_rfl, fun j t ht => by
        rw [Tryz.params5] at ht
        have hm : t ∈ [27, 3, 3] := by simpa using Array.mem_of_getElem? ht
        have hall : ([27, 3, 3].all fun u => !Tryz.prog.wantsStandIn u) = true := by kernel_rfl
        exact (show Tryz.prog.wantsStandIn t = false by simpa using List.all_eq_true.1 hall t hm)⟩)
    (by kernel_rfl)
#print axioms traceNil_holds
end Go.Proofs.YtcnfionnnpnplaaGreatDoor

/- boomeranglaw08.BatchMany answers true for every configuration and every case, and leaves its arguments as they were. Its conditions: none beyond the card's own (the table of ops is tied). -/
import Derived.Test.YtfiiaechippboaaDoorL06
import Derived.Test.YtfiiaechippboaaDoorL09
import Derived.Test.YtfiiaechippboaaDoorL07
import Derived.Test.YtfiiaechippboaaDoorL19
namespace Go.Proofs.YtfiiaechippboaaDoor
open Go Go.ChangeShapes Go.WideShapes Go.ChangeAt Go.RowKit Mem

set_option maxRecDepth 100000 in
theorem batchMany_lifted (os : Os) (started : os.Started) (H : Type) (enc : TypeId × Value → H) :
    ReturnsInHanded {} Tryd.checked os 6 .any (fun w args => (Rows.batchManySpec.pre enc Tryd.prog Tryd.f6 [] false w args ∧ laidMetH Tryd.prog tabLaid w) ∧ sizedMet enc Tryd.prog Tryd.f6 (OpenSpec.ofChange Rows.batchManySpec) false w args) (Rows.batchManySpec.post enc Tryd.prog Tryd.f6 false true false false) := by
  refine returnsInHanded_of_change_and (C := Tryd.checked) (X := fun w _ => laidMetH Tryd.prog tabLaid w) (fun _ _ _ hh h => h.of_heap hh) Tryd.own started (by kernel_rfl) Tryd.func6
    (ChangeSpec.witness_shaped (enc := enc) (C := Tryd.checked) (os := os) (X := fun w _ => laidMetH Tryd.prog tabLaid w) false (World.doorLaid Tryd.prog 59 os) #[.agg #[.slice none 0 0, .slice none 0 0, .slice none 0 0, .int .i64 0, .int .i64 0, .int .i64 0], .agg #[.int .i64 0, .int .i64 0, .int .i64 0, .int .i64 0, .int .i64 0, .slice none 0 0]] 8 rfl (World.shaped_of_RefB (by kernel_rfl) (by kernel_rfl)) (by kernel_rfl) (by kernel_rfl) (by kernel_rfl) (door_met os _)) ?_
  intro W base args ds gs before hval0 hW _ hWt hL _
  have hval : ∀ (j : Nat) t v, Tryd.f6.params[j]? = some t → args[j]? = some v → Value.okWide Tryd.prog W .any base t v := hval0
  have hW' := hW
  obtain ⟨p, q, hA0, hV, rfl, hfz, hnd⟩ := hW
  have hA : DataW.TrodAll enc Tryd.prog W 0 (fun _ => true) true Tryd.f6.params.toList args.toList ds p := hA0
  obtain ⟨rfl, rfl⟩ := trodVars_none hV
  have hAk := hA
  rw [Tryd.params6] at hA hval hWt
  simp only [List.append_nil] at hW'
  have hTab := tab_of_laid hL
  have main : ((Rows.batchManySpec.fn H ds).results = [.lit (.bool true)] ∧ (Rows.batchManySpec.fn H ds).args = ds ∧ (Rows.batchManySpec.fn H ds).vars = []) ∧ Calls Tryd.prog 6 args W fun e W' => e = .returned (.bool true) ∧ Below W.heap.size W W' := by
    clear hAk hfz hnd hval0 hW' hA0 hL
    obtain ⟨v1, v2, d1, d2, p1, p2, rfl, rfl, rfl, h1, h2⟩ := trodAll_two hA
    refine ⟨⟨rfl, rfl, rfl⟩, ?_⟩
    obtain ⟨vs, hs, c, rfl, hc, hw, hwb⟩ := open_cfgB h1 (hval 0 _ _ rfl rfl) (light_two hWt).1
    obtain ⟨lp, s, vL, l, rfl, hl, hlw⟩ := open_case h2 (hval 1 _ _ rfl rfl)
    exact batchMany_calls vs hs c lp s vL l W _ _ _ hc hw hwb hl (Nat.le_trans hlw (by decide)) hTab
  obtain ⟨⟨m1, m2, m3⟩, hc⟩ := main
  refine hc.mono fun e W' ⟨he, hb⟩ => ?_
  subst he
  refine ⟨_, rfl, post_of_below (pa := p) (pv := []) (by simpa using hW') (fun _ _ _ => ?_) (fun sp hsp => ?_) (fun _ _ => ?_) (by simp) hb (ok_one (by kernel_rfl) rfl (okWide_bool_mk Tryd.underlying4 true))⟩
  · simp only [List.append_nil]; rw [m1]; exact trodAll_mk1 (shut_bool Tryd.underlying4 true)
  · simp only [List.append_nil]; rw [m2]; exact trodAll_stays Tryd.laidOut hb Tryd.f6.params.toList _ _ p (by kernel_rfl) hAk (fun x hx => hW'.lt x (by simpa using hx)) (fun x hx => hsp x (by simpa using hx))
  · simp only [List.append_nil]; rw [m3]; exact rfl
theorem batchMany_row : Rows.BatchManySaid :=
  OpenClaim.holds_of_wide 6 Tryd.f6 rfl rfl rfl rfl rfl rfl rfl ⟨rfl, rfl, rfl, rfl, rfl⟩ rfl rfl rfl rfl rfl (by kernel_rfl) Tryd.func6 (by kernel_rfl)
    (of_decide_eq_true (by kernel_rfl)) (by unfold Func.isWrapper; first | (rw [if_pos (by decide +kernel)]; kernel_rfl) | (rw [if_neg (by decide +kernel)]; exact ⟨rfl, rfl⟩))
    (fun os started H enc _ => batchMany_lifted os started H enc)
/-- The tied card. -/
theorem batchMany_holds : Rows.BatchManyCardSaid :=
  Claim7.holds_tied_plain_at .later [] [.data] true (true, "d3b594775ac8a940a9cd63e0364033ac5343ece8f2c45bc9d507028fc5cad256") false
    batchMany_row (fun _ h => by cases h) (by kernel_rfl) (fun _ h => by cases h) batchMany_row_tie rfl ⟨rfl, rfl⟩ (by kernel_rfl) rfl
    (fun f fn hf hfn => by
      obtain rfl : f = 6 := Option.some.inj ((show Tryd.prog.funcNamed "boomerang/boomeranglaw08.BatchMany" = some 6 by kernel_rfl).symm.trans hf) |>.symm
      obtain rfl : fn = Tryd.f6 := (Option.some.inj (Tryd.func6.symm.trans hfn)).symm
      exact ⟨by kernel_rfl, fun j t ht => by
        rw [Tryd.params6] at ht
        have hm : t ∈ [26, 31] := by simpa using Array.mem_of_getElem? ht
        have hall : ([26, 31].all fun u => !Tryd.prog.wantsStandIn u) = true := by kernel_rfl
        exact (show Tryd.prog.wantsStandIn t = false by simpa using List.all_eq_true.1 hall t hm)⟩)
    (by kernel_rfl)
#print axioms batchMany_holds
end Go.Proofs.YtfiiaechippboaaDoor

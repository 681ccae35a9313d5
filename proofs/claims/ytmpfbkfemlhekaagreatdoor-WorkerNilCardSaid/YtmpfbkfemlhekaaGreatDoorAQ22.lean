import Derived.Test.YtmpfbkfemlhekaaGreatDoorA06
import Derived.Test.YtmpfbkfemlhekaaGreatDoorA20
--split
/- boomeranglaw18.WorkerNil answers true for every call, and leaves its argument as it was. Its conditions: none beyond the card's own (the table of ops is tied). -/
namespace Go.Proofs.YtmpfbkfemlhekaaGreatDoor
open Go Go.ChangeShapes Go.WideShapes Go.ChangeAt Go.RowKit Mem

abbrev i9b : List TypeDesc := [.int .i64, .int .i64, .int .i64, .int .i64, .int .i64, .int .i64, .int .i64, .int .i64, .int .i64, .bool]
theorem opW_dec : ∀ vs, fits i9b vs = true → (∀ v ∈ vs, wfv v = true) → ∃ k : OpW, k.cells = vs ∧ True := by
  intro vs h0 hw
  obtain ⟨a, v1, rfl, h1⟩ := fits_cons_int h0
  obtain ⟨b, v2, rfl, h2⟩ := fits_cons_int h1
  obtain ⟨m, rfl, _⟩ := message_dec v2 h2 fun v hv => hw v (List.mem_cons_of_mem _ (List.mem_cons_of_mem _ hv))
  exact ⟨⟨a, b, m⟩, rfl, trivial⟩
set_option maxRecDepth 100000 in
theorem workerNil_lifted (os : Os) (started : os.Started) (H : Type) (enc : TypeId × Value → H) :
    ReturnsInHanded {} Tryz.checked os 4 .any (fun w args => (Rows.workerNilSpec.pre enc Tryz.prog Tryz.f4 [] false w args ∧ laidMetH Tryz.prog tabLaid w) ∧ sizedMet enc Tryz.prog Tryz.f4 (OpenSpec.ofChange Rows.workerNilSpec) false w args) (Rows.workerNilSpec.post enc Tryz.prog Tryz.f4 false true false false) := by
  refine returnsInHanded_of_change_and (C := Tryz.checked) (X := fun w _ => laidMetH Tryz.prog tabLaid w) (fun _ _ _ hh h => h.of_heap hh) Tryz.own started (by kernel_rfl) Tryz.func4
    (ChangeSpec.witness_shaped (enc := enc) (C := Tryz.checked) (os := os) (X := fun w _ => laidMetH Tryz.prog tabLaid w) false (World.doorLaid Tryz.prog 59 os) #[.agg #[.int .i64 0, .int .i64 0, .int .i64 0, .int .i64 0, .int .i64 0, .int .i64 0, .int .i64 0, .int .i64 0, .int .i64 0, .bool false]] 8 rfl (World.shaped_of_RefB (by kernel_rfl) (by kernel_rfl)) (by kernel_rfl) (by kernel_rfl) (by kernel_rfl) (door_met os _)) ?_
  intro W base args ds gs before hval0 hW _ _ hL _
  have hval : ∀ (j : Nat) t v, Tryz.f4.params[j]? = some t → args[j]? = some v → Value.okWide Tryz.prog W .any base t v := hval0
  have hW' := hW
  obtain ⟨p, q, hA0, hV, rfl, hfz, hnd⟩ := hW
  have hA : DataW.TrodAll enc Tryz.prog W 0 (fun _ => true) true Tryz.f4.params.toList args.toList ds p := hA0
  obtain ⟨rfl, rfl⟩ := trodVars_none hV
  have hAk := hA
  rw [Tryz.params4] at hA hval
  simp only [List.append_nil] at hW'
  have hTab := tab_of_laid hL
  have main : ((Rows.workerNilSpec.fn H ds).results = [.lit (.bool true)] ∧ (Rows.workerNilSpec.fn H ds).args = ds ∧ (Rows.workerNilSpec.fn H ds).vars = []) ∧ Calls Tryz.prog 4 args W fun e W' => e = .returned (.bool true) ∧ Below W.heap.size W W' := by
    clear hAk hfz hnd hval0 hW' hA0 hL
    obtain ⟨v1, d1, rfl, rfl, h1⟩ := trodAll_one hA
    refine ⟨⟨rfl, rfl, rfl⟩, ?_⟩
    obtain ⟨x, rfl, _⟩ := open_flat (en := OpW.cells) (ks := i9b) Tryz.underlying52 (by kernel_rfl) (by kernel_rfl) opW_dec h1 (hval 0 _ _ rfl rfl)
    exact workerNil_calls x W _ hTab
  obtain ⟨⟨m1, m2, m3⟩, hc⟩ := main
  refine hc.mono fun e W' ⟨he, hb⟩ => ?_
  subst he
  refine ⟨_, rfl, post_of_below (pa := p) (pv := []) (by simpa using hW') (fun _ _ _ => ?_) (fun sp hsp => ?_) (fun _ _ => ?_) (by simp) hb (ok_one (by kernel_rfl) rfl (okWide_bool_mk Tryz.underlying4 true))⟩
  · simp only [List.append_nil]; rw [m1]; exact trodAll_mk1 (shut_bool Tryz.underlying4 true)
  · simp only [List.append_nil]; rw [m2]; exact trodAll_stays Tryz.laidOut hb Tryz.f4.params.toList _ _ p (by kernel_rfl) hAk (fun x hx => hW'.lt x (by simpa using hx)) (fun x hx => hsp x (by simpa using hx))
  · simp only [List.append_nil]; rw [m3]; exact rfl
theorem workerNil_j1 : (Rows.workerNilRow.inPlace == Tryz.pinned.checked.prog.inPlace 4) = true := by kernel_rfl
theorem workerNil_j2 : (Rows.workerNilRow.unfollowed == Tryz.pinned.checked.prog.unfollowed 4) = true := by kernel_rfl
theorem workerNil_j3 : (Rows.workerNilRow.recurses == Tryz.pinned.checked.prog.recurses 4) = true := by kernel_rfl
theorem workerNil_j4 : (Rows.workerNilRow.named == Tryz.pinned.checked.prog.varsNamed 4) = true := by kernel_rfl
theorem workerNil_j5 : laidOutB Tryz.pinned.checked.prog = true := by kernel_rfl
theorem workerNil_j6 : mapsRowed Tryz.pinned.checked.prog = true := by kernel_rfl
set_option maxRecDepth 100000 in
set_option maxHeartbeats 8000000 in
theorem workerNil_closed : joinedFacts Tryz.pinned.checked.prog 4 Tryz.f4 Rows.workerNilSpec Rows.workerNilRow = true := by
  unfold joinedFacts
  simp only [Bool.and_eq_true]
  and_intros
  all_goals first | with_reducible exact workerNil_j1 | with_reducible exact workerNil_j2 | with_reducible exact workerNil_j3 | with_reducible exact workerNil_j4 | with_reducible exact workerNil_j5 | with_reducible exact workerNil_j6 | kernel_rfl
theorem workerNil_g1 : false = Rows.workerNilRow.goesBy Tryz.pinned.checked.prog := by kernel_rfl
theorem workerNil_row : Rows.WorkerNilSaid :=
  OpenClaim.holds_of_wide 4 Tryz.f4 rfl rfl rfl rfl rfl rfl rfl ⟨rfl, rfl, rfl, rfl, rfl⟩ rfl rfl rfl rfl rfl (by kernel_rfl) Tryz.func4 workerNil_closed
    (of_decide_eq_true (by kernel_rfl)) (by unfold Func.isWrapper; first | (rw [if_pos (by decide +kernel)]; kernel_rfl) | (rw [if_neg (by decide +kernel)]; exact ⟨rfl, rfl⟩))
    (fun os started H enc _ => workerNil_lifted os started H enc)
/-- The tied card. -/
theorem workerNil_holds : Rows.WorkerNilCardSaid :=
  Claim7.holds_tied_plain_at .later [] [.data] true (true, "f9b1d462e7e1df40895e5ad0c0436a828460b51ffd35d44b0c5ba06b2cc89be4") false
    workerNil_row (fun _ h => by cases h) (by kernel_rfl) (fun _ h => by cases h) workerNil_row_tie rfl ⟨rfl, rfl⟩ (by kernel_rfl) rfl
    (fun f fn hf hfn => by
      obtain rfl : f = 4 := Option.some.inj ((show Tryz.prog.funcNamed "boomerang/boomeranglaw18.WorkerNil" = some 4 by kernel_rfl).symm.trans hf) |>.symm
      obtain rfl : fn = Tryz.f4 := (Option.some.inj (Tryz.func4.symm.trans hfn)).symm
      exact ⟨by kernel_rfl, fun j t ht => by
        rw [Tryz.params4] at ht
        have hm : t ∈ [52] := by simpa using Array.mem_of_getElem? ht
        have hall : ([52].all fun u => !Tryz.prog.wantsStandIn u) = true := by kernel_rfl
        exact (show Tryz.prog.wantsStandIn t = false by simpa using List.all_eq_true.1 hall t hm)⟩)
    workerNil_g1
#print axioms workerNil_holds
end Go.Proofs.YtmpfbkfemlhekaaGreatDoor

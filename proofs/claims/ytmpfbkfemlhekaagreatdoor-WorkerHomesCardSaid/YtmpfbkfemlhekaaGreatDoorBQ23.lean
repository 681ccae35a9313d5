import Derived.Test.YtmpfbkfemlhekaaGreatDoorB06
import Derived.Test.YtmpfbkfemlhekaaGreatDoorB21
--split
/- boomeranglaw18.WorkerHomes answers true for every process, every number of workers and every configuration, and leaves its arguments as they were. Its conditions: none beyond the card's own (the table of ops is tied). -/
namespace Go.Proofs.YtmpfbkfemlhekaaGreatDoor
open Go Go.ChangeShapes Go.WideShapes Go.ChangeAt Go.RowKit Mem

theorem okWide_int64 {P : Program} {w : World} {t : TypeId} {r : Reach} {base : Nat} {v : Value} (ht : P.underlying t = some (.int .i64)) (h : Value.okWide P w r base t v) : ∃ n : Int, v = .int .i64 n ∧ -9223372036854775808 ≤ n ∧ n ≤ 9223372036854775807 := by
  simp only [Value.okWide, ht, Cell.okWide] at h
  cases v <;> simp_all [Cell.ok]
  exact h.2
set_option maxRecDepth 100000 in
theorem workerHomes_lifted (os : Os) (started : os.Started) (H : Type) (enc : TypeId × Value → H) :
    ReturnsInHanded {} Tryz.checked os 3 .any (fun w args => (Rows.workerHomesSpec.pre enc Tryz.prog Tryz.f3 [] false w args ∧ laidMetH Tryz.prog tabLaid w) ∧ sizedMet enc Tryz.prog Tryz.f3 (OpenSpec.ofChange Rows.workerHomesSpec) false w args) (Rows.workerHomesSpec.post enc Tryz.prog Tryz.f3 false true false false) := by
  refine returnsInHanded_of_change_and (C := Tryz.checked) (X := fun w _ => laidMetH Tryz.prog tabLaid w) (fun _ _ _ hh h => h.of_heap hh) Tryz.own started (by kernel_rfl) Tryz.func3
    (ChangeSpec.witness_shaped (enc := enc) (C := Tryz.checked) (os := os) (X := fun w _ => laidMetH Tryz.prog tabLaid w) false (World.doorLaid Tryz.prog 59 os) #[.int .i64 0, .int .i64 0, .agg #[.slice none 0 0, .slice none 0 0, .slice none 0 0, .int .i64 0, .int .i64 0, .int .i64 0]] 8 rfl (World.shaped_of_RefB (by kernel_rfl) (by kernel_rfl)) (by kernel_rfl) (by kernel_rfl) (by kernel_rfl) (door_met os _)) ?_
  intro W base args ds gs before hval0 hW _ hWt hL _
  have hval : ∀ (j : Nat) t v, Tryz.f3.params[j]? = some t → args[j]? = some v → Value.okWide Tryz.prog W .any base t v := hval0
  have hW' := hW
  obtain ⟨p, q, hA0, hV, rfl, hfz, hnd⟩ := hW
  have hA : DataW.TrodAll enc Tryz.prog W 0 (fun _ => true) true Tryz.f3.params.toList args.toList ds p := hA0
  obtain ⟨rfl, rfl⟩ := trodVars_none hV
  have hAk := hA
  rw [Tryz.params3] at hA hval hWt
  simp only [List.append_nil] at hW'
  have hTab := tab_of_laid hL
  have main : ((Rows.workerHomesSpec.fn H ds).results = [.lit (.bool true)] ∧ (Rows.workerHomesSpec.fn H ds).args = ds ∧ (Rows.workerHomesSpec.fn H ds).vars = []) ∧ Calls Tryz.prog 3 args W fun e W' => e = .returned (.bool true) ∧ Below W.heap.size W W' := by
    clear hAk hfz hnd hval0 hW' hA0 hL
    obtain ⟨v1, v2, v3, d1, d2, d3, p1, p2, p3, rfl, rfl, rfl, h1, h2, h3⟩ := trodAll_three hA
    refine ⟨⟨rfl, rfl, rfl⟩, ?_⟩
    obtain ⟨id, rfl, hb1, hb2⟩ := okWide_int64 Tryz.underlying3 (hval 0 _ _ rfl rfl)
    obtain ⟨workers, rfl⟩ := okWide_int Tryz.underlying3 (hval 1 _ _ rfl rfl)
    obtain ⟨vs, hs, c, rfl, hc, hw, hwb⟩ := open_cfgB h3 (hval 2 _ _ rfl rfl) (light_three hWt).2.2
    exact homes_law id workers hb1 hb2 vs hs c W _ _ hc hw hwb hTab
  obtain ⟨⟨m1, m2, m3⟩, hc⟩ := main
  refine hc.mono fun e W' ⟨he, hb⟩ => ?_
  subst he
  refine ⟨_, rfl, post_of_below (pa := p) (pv := []) (by simpa using hW') (fun _ _ _ => ?_) (fun sp hsp => ?_) (fun _ _ => ?_) (by simp) hb (ok_one (by kernel_rfl) rfl (okWide_bool_mk Tryz.underlying4 true))⟩
  · simp only [List.append_nil]; rw [m1]; exact trodAll_mk1 (shut_bool Tryz.underlying4 true)
  · simp only [List.append_nil]; rw [m2]; exact trodAll_stays Tryz.laidOut hb Tryz.f3.params.toList _ _ p (by kernel_rfl) hAk (fun x hx => hW'.lt x (by simpa using hx)) (fun x hx => hsp x (by simpa using hx))
  · simp only [List.append_nil]; rw [m3]; exact rfl
theorem workerHomes_j1 : (Rows.workerHomesRow.inPlace == Tryz.pinned.checked.prog.inPlace 3) = true := by kernel_rfl
theorem workerHomes_j2 : (Rows.workerHomesRow.unfollowed == Tryz.pinned.checked.prog.unfollowed 3) = true := by kernel_rfl
theorem workerHomes_j3 : (Rows.workerHomesRow.recurses == Tryz.pinned.checked.prog.recurses 3) = true := by kernel_rfl
theorem workerHomes_j4 : (Rows.workerHomesRow.named == Tryz.pinned.checked.prog.varsNamed 3) = true := by kernel_rfl
theorem workerHomes_j5 : laidOutB Tryz.pinned.checked.prog = true := by kernel_rfl
theorem workerHomes_j6 : mapsRowed Tryz.pinned.checked.prog = true := by kernel_rfl
set_option maxRecDepth 100000 in
set_option maxHeartbeats 8000000 in
theorem workerHomes_closed : joinedFacts Tryz.pinned.checked.prog 3 Tryz.f3 Rows.workerHomesSpec Rows.workerHomesRow = true := by
  unfold joinedFacts
  simp only [Bool.and_eq_true]
  and_intros
  all_goals first | with_reducible exact workerHomes_j1 | with_reducible exact workerHomes_j2 | with_reducible exact workerHomes_j3 | with_reducible exact workerHomes_j4 | with_reducible exact workerHomes_j5 | with_reducible exact workerHomes_j6 | kernel_rfl
theorem workerHomes_g1 : false = Rows.workerHomesRow.goesBy Tryz.pinned.checked.prog := by kernel_rfl
theorem workerHomes_row : Rows.WorkerHomesSaid :=
  OpenClaim.holds_of_wide 3 Tryz.f3 rfl rfl rfl rfl rfl rfl rfl ⟨rfl, rfl, rfl, rfl, rfl⟩ rfl rfl rfl rfl rfl (by kernel_rfl) Tryz.func3 workerHomes_closed
    (of_decide_eq_true (by kernel_rfl)) (by unfold Func.isWrapper; first | (rw [if_pos (by decide +kernel)]; kernel_rfl) | (rw [if_neg (by decide +kernel)]; exact ⟨rfl, rfl⟩))
    (fun os started H enc _ => workerHomes_lifted os started H enc)
/-- The tied card. -/
theorem workerHomes_holds : Rows.WorkerHomesCardSaid :=
  Claim7.holds_tied_plain_at .later [] [.data] true (true, "f9b1d462e7e1df40895e5ad0c0436a828460b51ffd35d44b0c5ba06b2cc89be4") false
    workerHomes_row (fun _ h => by cases h) (by kernel_rfl) (fun _ h => by cases h) workerHomes_row_tie rfl ⟨rfl, rfl⟩ (by kernel_rfl) rfl
    (fun f fn hf hfn => by
      obtain rfl : f = 3 := Option.some.inj ((show Tryz.prog.funcNamed "boomerang/boomeranglaw18.WorkerHomes" = some 3 by kernel_rfl).symm.trans hf) |>.symm
      obtain rfl : fn = Tryz.f3 := (Option.some.inj (Tryz.func3.symm.trans hfn)).symm
      exact ⟨by kernel_rfl, fun j t ht => by
        rw [Tryz.params3] at ht
        have hm : t ∈ [3, 3, 26] := by simpa using Array.mem_of_getElem? ht
        have hall : ([3, 3, 26].all fun u => !Tryz.prog.wantsStandIn u) = true := by kernel_rfl
        exact (show Tryz.prog.wantsStandIn t = false by simpa using List.all_eq_true.1 hall t hm)⟩)
    workerHomes_g1
#print axioms workerHomes_holds
end Go.Proofs.YtmpfbkfemlhekaaGreatDoor

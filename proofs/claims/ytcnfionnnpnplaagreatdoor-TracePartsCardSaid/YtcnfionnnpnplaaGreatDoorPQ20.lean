/- boomeranglaw20.TraceParts answers true for every configuration, all batches and every two numbers, and leaves its arguments as they were. Its conditions: none beyond the card's own (the table of ops is tied). -/
import Derived.Test.YtcnfionnnpnplaaGreatDoorP06
import Derived.Test.YtcnfionnnpnplaaGreatDoorP19
import Derived.Test.YtcnfionnnpnplaaGreatDoorP36
namespace Go.Proofs.YtcnfionnnpnplaaGreatDoor
open Go Go.ChangeShapes Go.WideShapes Go.ChangeAt Go.RowKit Mem

theorem okWide_array {P : Program} {w : World} {t e : TypeId} {n : Nat} {r : Reach} {base : Nat} {v : Value} (ht : P.underlying t = some (.array n e)) (h : Value.okWide P w r base t v) : ∃ cs, v = .agg cs ∧ cs.size = P.cellsOf t := by
  simp only [Value.okWide, ht] at h
  obtain ⟨cs, h1, h2, _⟩ := h
  exact ⟨cs, h1, h2⟩
theorem two_dec {vs : List Value} (h0 : fits [.int .i64, .int .i64] vs = true) : ∃ a b : Int, vs = [.int .i64 a, .int .i64 b] := by
  obtain ⟨a, v1, rfl, h1⟩ := fits_cons_int h0
  obtain ⟨b, v2, rfl, h2⟩ := fits_cons_int h1
  obtain rfl := fits_none h2
  exact ⟨a, b, rfl⟩
section
variable {H : Type} {enc : TypeId × Value → H} {w : World} {base : Nat} {spare : Nat → Bool} {held : Bool}
set_option maxRecDepth 100000 in
theorem open_two {v : Value} {d : DataW H} {p : List MemPlace} {r : Reach} {base2 : Nat} (h : DataW.Trod enc Tryz.prog w base spare held 28 v d p) (hv : Value.okWide Tryz.prog w r base2 28 v) :
    ∃ a b : Int, v = .agg #[.int .i64 a, .int .i64 b] := by
  obtain ⟨cs, rfl, _⟩ := okWide_array Tryz.underlying28 hv
  obtain ⟨fuel, hf⟩ := h
  obtain ⟨h1, _⟩ := trod_flat 100 28 [.int .i64, .int .i64] (by kernel_rfl) (by kernel_rfl) fuel _ _ hf
  obtain ⟨a, b, e⟩ := two_dec h1
  refine ⟨a, b, ?_⟩
  congr 1
  rw [← Array.toList_inj]
  exact e
end
set_option maxRecDepth 100000 in
theorem traceParts_lifted (os : Os) (started : os.Started) (H : Type) (enc : TypeId × Value → H) :
    ReturnsInHanded {} Tryz.checked os 3 .any (fun w args => (Rows.tracePartsSpec.pre enc Tryz.prog Tryz.f3 [] false w args ∧ laidMetH Tryz.prog tabLaid w) ∧ sizedMet enc Tryz.prog Tryz.f3 (OpenSpec.ofChange Rows.tracePartsSpec) false w args) (Rows.tracePartsSpec.post enc Tryz.prog Tryz.f3 false true false false) := by
  refine returnsInHanded_of_change_and (C := Tryz.checked) (X := fun w _ => laidMetH Tryz.prog tabLaid w) (fun _ _ _ hh h => h.of_heap hh) Tryz.own started (by kernel_rfl) Tryz.func3
    (ChangeSpec.witness_shaped (enc := enc) (C := Tryz.checked) (os := os) (X := fun w _ => laidMetH Tryz.prog tabLaid w) false (World.doorLaid Tryz.prog 59 os) #[.agg #[.slice none 0 0, .slice none 0 0, .slice none 0 0, .int .i64 0, .int .i64 0, .int .i64 0], .slice none 0 0, .agg #[.int .i64 0, .int .i64 0]] 8 rfl (World.shaped_of_RefB (by kernel_rfl) (by kernel_rfl)) (by kernel_rfl) (by kernel_rfl) (by kernel_rfl) (door_met os _)) ?_
  intro W base args ds gs before hval0 hW _ hWt hL _
  have hval : ∀ (j : Nat) t v, Tryz.f3.params[j]? = some t → args[j]? = some v → Value.okWide Tryz.prog W .any base t v := hval0
  have hW' := hW
  obtain ⟨p, q, hA0, hV, rfl, hfz, hnd⟩ := hW
  have hA : DataW.TrodAll enc Tryz.prog W 0 (fun _ => true) true Tryz.f3.params.toList args.toList ds p := hA0
  obtain ⟨rfl, rfl⟩ := trodVars_none hV
  have hAk := hA
  rw [Tryz.params3] at hA hval hWt
  simp only [List.append_nil] at hW'
  have hTab := tab_of_laid hL
  have main : ((Rows.tracePartsSpec.fn H ds).results = [.lit (.bool true)] ∧ (Rows.tracePartsSpec.fn H ds).args = ds ∧ (Rows.tracePartsSpec.fn H ds).vars = []) ∧ Calls Tryz.prog 3 args W fun e W' => e = .returned (.bool true) ∧ Below W.heap.size W W' := by
    clear hAk hfz hnd hval0 hW' hA0 hL
    obtain ⟨v1, v2, v3, d1, d2, d3, p1, p2, p3, rfl, rfl, rfl, h1, h2, h3⟩ := trodAll_three hA
    refine ⟨⟨rfl, rfl, rfl⟩, ?_⟩
    obtain ⟨vs, hs, c, rfl, hc, hw, hwb⟩ := open_cfgB h1 (hval 0 _ _ rfl rfl) (light_three hWt).1
    obtain ⟨ad, cp, l, rfl, a1, a2, a3, hn, hn2⟩ := open_bats h2 (hval 1 _ _ rfl rfl)
    obtain ⟨t0, t1, rfl⟩ := open_two h3 (hval 2 _ _ rfl rfl)
    exact traceParts_calls vs hs c ad cp l t0 t1 W _ _ _ _ _ hc hw hwb a1 a2 a3 (Nat.le_trans hn (by decide)) (fun x hx => Nat.le_trans (hn2 x hx).1 (by decide)) hTab
  obtain ⟨⟨m1, m2, m3⟩, hc⟩ := main
  refine hc.mono fun e W' ⟨he, hb⟩ => ?_
  subst he
  refine ⟨_, rfl, post_of_below (pa := p) (pv := []) (by simpa using hW') (fun _ _ _ => ?_) (fun sp hsp => ?_) (fun _ _ => ?_) (by simp) hb (ok_one (by kernel_rfl) rfl (okWide_bool_mk Tryz.underlying4 true))⟩
  · simp only [List.append_nil]; rw [m1]; exact trodAll_mk1 (shut_bool Tryz.underlying4 true)
  · simp only [List.append_nil]; rw [m2]; exact trodAll_stays Tryz.laidOut hb Tryz.f3.params.toList _ _ p (by kernel_rfl) hAk (fun x hx => hW'.lt x (by simpa using hx)) (fun x hx => hsp x (by simpa using hx))
  · simp only [List.append_nil]; rw [m3]; exact rfl
theorem traceParts_row : Rows.TracePartsSaid :=
  OpenClaim.holds_of_wide 3 Tryz.f3 rfl rfl rfl rfl rfl rfl rfl ⟨rfl, rfl, rfl, rfl, rfl⟩ rfl rfl rfl rfl rfl (by kernel_rfl) Tryz.func3 (by kernel_rfl)
    (of_decide_eq_true (by kernel_rfl)) (by unfold Func.isWrapper; first | (rw [if_pos (by decide +kernel)]; kernel_rfl) | (rw [if_neg (by decide +kernel)]; exact ⟨rfl, rfl⟩))
    (fun os started H enc _ => traceParts_lifted os started H enc)
/-- The tied card. -/
theorem traceParts_holds : Rows.TracePartsCardSaid :=
  Claim7.holds_tied_plain_at .later [] [.data] true (true, "7fe83b1d6d1ccb1597622994b3a2d49022f23364398c63ec948c52f776608756") false
    traceParts_row (fun _ h => by cases h) (by kernel_rfl) (fun _ h => by cases h) traceParts_row_tie rfl ⟨rfl, rfl⟩ (by kernel_rfl) rfl
    (fun f fn hf hfn => by
      obtain rfl : f = 3 := Option.some.inj ((show Tryz.prog.funcNamed "boomerang/boomeranglaw20.TraceParts" = some 3 by kernel_rfl).symm.trans hf) |>.symm
      obtain rfl : fn = Tryz.f3 := (Option.some.inj (Tryz.func3.symm.trans hfn)).symm
      exact ⟨by kernel_rfl, fun j t ht => by
        rw [Tryz.params3] at ht
        have hm : t ∈ [26, 27, 28] := by simpa using Array.mem_of_getElem? ht
        have hall : ([26, 27, 28].all fun u => !Tryz.prog.wantsStandIn u) = true := by kernel_rfl
        exact (show Tryz.prog.wantsStandIn t = false by simpa using List.all_eq_true.1 hall t hm)⟩)
    (by kernel_rfl)
#print axioms traceParts_holds
end Go.Proofs.YtcnfionnnpnplaaGreatDoor

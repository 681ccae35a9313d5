/- boomeranglaw16.FossilParts answers true for every configuration, every two times and all events, and leaves its arguments as they were. Its conditions: none beyond the card's own (the table of ops is tied). -/
import Derived.Test.YtjmecncebdbhdaaDoorR06
import Derived.Test.YtjmecncebdbhdaaDoorR33
namespace Go.Proofs.YtjmecncebdbhdaaDoor
open Go Go.ChangeShapes Go.WideShapes Go.ChangeAt Go.RowKit Mem

theorem okWide_array {P : Program} {w : World} {t e : TypeId} {n : Nat} {r : Reach} {base : Nat} {v : Value} (ht : P.underlying t = some (.array n e)) (h : Value.okWide P w r base t v) : ∃ cs, v = .agg cs ∧ cs.size = P.cellsOf t := by
  simp only [Value.okWide, ht] at h
  obtain ⟨cs, h1, h2, _⟩ := h
  exact ⟨cs, h1, h2⟩
theorem two_dec {vs : List Value} (h0 : fits [.int .i64, .int .i64] vs = true) : ∃ a b : Int, vs = [.int .i64 a, .int .i64 b] := by
  obtain ⟨a, v1, rfl, h1⟩ := fits_cons_int h0
  obtain ⟨b, v2, rfl, h2⟩ := fits_cons_int h1
  obtain rfl := fits_none h2
  exact ⟨a, b, rfl⟩
section
variable {H : Type} {enc : TypeId × Value → H} {w : World} {base : Nat} {spare : Nat → Bool} {held : Bool}
set_option maxRecDepth 100000 in
theorem open_two {v : Value} {d : DataW H} {p : List MemPlace} {r : Reach} {base2 : Nat} (h : DataW.Trod enc Tryd.prog w base spare held 55 v d p) (hv : Value.okWide Tryd.prog w r base2 55 v) :
    ∃ a b : Int, v = .agg #[.int .i64 a, .int .i64 b] := by
  obtain ⟨cs, rfl, _⟩ := okWide_array Tryd.underlying55 hv
  obtain ⟨fuel, hf⟩ := h
  obtain ⟨h1, _⟩ := trod_flat 100 55 [.int .i64, .int .i64] (by kernel_rfl) (by kernel_rfl) fuel _ _ hf
  obtain ⟨a, b, e⟩ := two_dec h1
  refine ⟨a, b, ?_⟩
  congr 1
  rw [← Array.toList_inj]
  exact e
set_option maxRecDepth 100000 in
theorem open_evs {v : Value} {d : DataW H} {p : List MemPlace} {r : Reach} {base2 : Nat} (h : DataW.Trod enc Tryd.prog w base spare held 29 v d p) (hv : Value.okWide Tryd.prog w r base2 29 v) :
    ∃ l : List Event, (Sl true Event.cells 7 v l).at_ w (fun b => b < w.heap.size) ∧ l.length ≤ maxLen := by
  obtain ⟨fuel, hf⟩ := h
  obtain ⟨a, len, cap, rfl⟩ := okWide_slice Tryd.underlying29 hv
  obtain ⟨u, l, g, a2, l2⟩ := trod_sl (ks := i7) Event.cells 7 Tryd.underlying29 (by kernel_rfl) (by kernel_rfl) rfl (by decide) ecells event_dec hf
  simp only [Value.cells, List.cons.injEq, and_true] at g
  subst g
  exact ⟨l, ⟨a2, fun _ h => h⟩, l2⟩
end
set_option maxRecDepth 100000 in
theorem fossilParts_lifted (os : Os) (started : os.Started) (H : Type) (enc : TypeId × Value → H) :
    ReturnsInHanded {} Tryd.checked os 4 .any (fun w args => (Rows.fossilPartsSpec.pre enc Tryd.prog Tryd.f4 [] false w args ∧ laidMetH Tryd.prog tabLaid w) ∧ sizedMet enc Tryd.prog Tryd.f4 (OpenSpec.ofChange Rows.fossilPartsSpec) false w args) (Rows.fossilPartsSpec.post enc Tryd.prog Tryd.f4 false true false false) := by
  refine returnsInHanded_of_change_and (C := Tryd.checked) (X := fun w _ => laidMetH Tryd.prog tabLaid w) (fun _ _ _ hh h => h.of_heap hh) Tryd.own started (by kernel_rfl) Tryd.func4
    (ChangeSpec.witness_shaped (enc := enc) (C := Tryd.checked) (os := os) (X := fun w _ => laidMetH Tryd.prog tabLaid w) false (World.doorLaid Tryd.prog 59 os) #[.agg #[.slice none 0 0, .slice none 0 0, .slice none 0 0, .int .i64 0, .int .i64 0, .int .i64 0], .agg #[.int .i64 0, .int .i64 0], .slice none 0 0] 8 rfl (World.shaped_of_RefB (by kernel_rfl) (by kernel_rfl)) (by kernel_rfl) (by kernel_rfl) (by kernel_rfl) (door_met os _)) ?_
  intro W base args ds gs before hval0 hW _ hWt hL _
  have hval : ∀ (j : Nat) t v, Tryd.f4.params[j]? = some t → args[j]? = some v → Value.okWide Tryd.prog W .any base t v := hval0
  have hW' := hW
  obtain ⟨p, q, hA0, hV, rfl, hfz, hnd⟩ := hW
  have hA : DataW.TrodAll enc Tryd.prog W 0 (fun _ => true) true Tryd.f4.params.toList args.toList ds p := hA0
  obtain ⟨rfl, rfl⟩ := trodVars_none hV
  have hAk := hA
  rw [Tryd.params4] at hA hval hWt
  simp only [List.append_nil] at hW'
  have hTab := tab_of_laid hL
  have main : ((Rows.fossilPartsSpec.fn H ds).results = [.lit (.bool true)] ∧ (Rows.fossilPartsSpec.fn H ds).args = ds ∧ (Rows.fossilPartsSpec.fn H ds).vars = []) ∧ Calls Tryd.prog 4 args W fun e W' => e = .returned (.bool true) ∧ Below W.heap.size W W' := by
    clear hAk hfz hnd hval0 hW' hA0 hL
    obtain ⟨v1, v2, v3, d1, d2, d3, p1, p2, p3, rfl, rfl, rfl, h1, h2, h3⟩ := trodAll_three hA
    refine ⟨⟨rfl, rfl, rfl⟩, ?_⟩
    obtain ⟨vs, hs, c, rfl, hc, hw, hwb⟩ := open_cfgB h1 (hval 0 _ _ rfl rfl) (light_three hWt).1
    obtain ⟨t0, t1, rfl⟩ := open_two h2 (hval 1 _ _ rfl rfl)
    obtain ⟨l, hl, hlw⟩ := open_evs h3 (hval 2 _ _ rfl rfl)
    exact fossilParts_calls vs hs c t0 t1 _ l W _ _ _ hc hw hwb hl (Nat.le_trans hlw (by decide)) hTab
  obtain ⟨⟨m1, m2, m3⟩, hc⟩ := main
  refine hc.mono fun e W' ⟨he, hb⟩ => ?_
  subst he
  refine ⟨_, rfl, post_of_below (pa := p) (pv := []) (by simpa using hW') (fun _ _ _ => ?_) (fun sp hsp => ?_) (fun _ _ => ?_) (by simp) hb (ok_one (by kernel_rfl) rfl (okWide_bool_mk Tryd.underlying4 true))⟩
  · simp only [List.append_nil]; rw [m1]; exact trodAll_mk1 (shut_bool Tryd.underlying4 true)
  · simp only [List.append_nil]; rw [m2]; exact trodAll_stays Tryd.laidOut hb Tryd.f4.params.toList _ _ p (by kernel_rfl) hAk (fun x hx => hW'.lt x (by simpa using hx)) (fun x hx => hsp x (by simpa using hx))
  · simp only [List.append_nil]; rw [m3]; exact rfl
theorem fossilParts_row : Rows.FossilPartsSaid :=
  OpenClaim.holds_of_wide 4 Tryd.f4 rfl rfl rfl rfl rfl rfl rfl ⟨rfl, rfl, rfl, rfl, rfl⟩ rfl rfl rfl rfl rfl (by kernel_rfl) Tryd.func4 (by kernel_rfl)
    (of_decide_eq_true (by kernel_rfl)) (by unfold Func.isWrapper; first | (rw [if_pos (by decide +kernel)]; kernel_rfl) | (rw [if_neg (by decide +kernel)]; exact ⟨rfl, rfl⟩))
    (fun os started H enc _ => fossilParts_lifted os started H enc)
/-- The tied card. -/
theorem fossilParts_holds : Rows.FossilPartsCardSaid :=
  Claim7.holds_tied_plain_at .later [] [.data] true (true, "3579d36b01d56da3759c007acab297ced62117d2cb1fb8ae2cd55714e5a79f9f") false
    fossilParts_row (fun _ h => by cases h) (by kernel_rfl) (fun _ h => by cases h) fossilParts_row_tie rfl ⟨rfl, rfl⟩ (by kernel_rfl) rfl
    (fun f fn hf hfn => by
      obtain rfl : f = 4 := Option.some.inj ((show Tryd.prog.funcNamed "boomerang/boomeranglaw16.FossilParts" = some 4 by kernel_rfl).symm.trans hf) |>.symm
      obtain rfl : fn = Tryd.f4 := (Option.some.inj (Tryd.func4.symm.trans hfn)).symm
      exact ⟨by kernel_rfl, fun j t ht => by
        rw [Tryd.params4] at ht
        have hm : t ∈ [26, 55, 29] := by simpa using Array.mem_of_getElem? ht
        have hall : ([26, 55, 29].all fun u => !Tryd.prog.wantsStandIn u) = true := by kernel_rfl
        exact (show Tryd.prog.wantsStandIn t = false by simpa using List.all_eq_true.1 hall t hm)⟩)
    (by kernel_rfl)
#print axioms fossilParts_holds
end Go.Proofs.YtjmecncebdbhdaaDoor

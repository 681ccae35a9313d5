/- boomeranglaw16.FossilSeq answers true for every configuration and all times at which it is cut, and leaves its arguments as they were. Its conditions: none beyond the card's own (the table of ops is tied). -/
import Derived.Test.YtemgonomenjjaaaGreatDoorR06
import Derived.Test.YtemgonomenjjaaaGreatDoorR34
namespace Go.Proofs.YtemgonomenjjaaaGreatDoor
open Go Go.ChangeShapes Go.WideShapes Go.ChangeAt Go.RowKit Mem

theorem int_dec {vs : List Value} (h0 : fits [.int .i64] vs = true) (_ : ∀ v ∈ vs, wfv v = true) : ∃ k : Int, intE k = vs ∧ True := by
  obtain ⟨a, v1, rfl, h1⟩ := fits_cons_int h0
  obtain rfl := fits_none h1
  exact ⟨a, rfl, trivial⟩
section
variable {H : Type} {enc : TypeId × Value → H} {w : World} {base : Nat} {spare : Nat → Bool} {held : Bool}
set_option maxRecDepth 100000 in
theorem open_ints {v : Value} {d : DataW H} {p : List MemPlace} {r : Reach} {base2 : Nat} (h : DataW.Trod enc Tryz.prog w base spare held 64 v d p) (hv : Value.okWide Tryz.prog w r base2 64 v) :
    ∃ l : List Int, (Sl true intE 1 v l).at_ w (fun b => b < w.heap.size) ∧ l.length ≤ maxLen := by
  obtain ⟨fuel, hf⟩ := h
  obtain ⟨a, len, cap, rfl⟩ := okWide_slice Tryz.underlying64 hv
  obtain ⟨u, l, g, a2, l2⟩ := trod_sl (ks := [.int .i64]) intE 1 Tryz.underlying64 (by kernel_rfl) (by kernel_rfl) rfl (by decide) intE_len (fun _ => int_dec) hf
  simp only [Value.cells, List.cons.injEq, and_true] at g
  subst g
  exact ⟨l, ⟨a2, fun _ h => h⟩, l2⟩
end
set_option maxRecDepth 100000 in
theorem fossilSeq_lifted (os : Os) (started : os.Started) (H : Type) (enc : TypeId × Value → H) :
    ReturnsInHanded {} Tryz.checked os 4 .any (fun w args => (Rows.fossilSeqSpec.pre enc Tryz.prog Tryz.f4 [] false w args ∧ laidMetH Tryz.prog tabLaid w) ∧ sizedMet enc Tryz.prog Tryz.f4 (OpenSpec.ofChange Rows.fossilSeqSpec) false w args) (Rows.fossilSeqSpec.post enc Tryz.prog Tryz.f4 false true false false) := by
  refine returnsInHanded_of_change_and (C := Tryz.checked) (X := fun w _ => laidMetH Tryz.prog tabLaid w) (fun _ _ _ hh h => h.of_heap hh) Tryz.own started (by kernel_rfl) Tryz.func4
    (ChangeSpec.witness_shaped (enc := enc) (C := Tryz.checked) (os := os) (X := fun w _ => laidMetH Tryz.prog tabLaid w) false (World.doorLaid Tryz.prog 59 os) #[.agg #[.slice none 0 0, .slice none 0 0, .slice none 0 0, .int .i64 0, .int .i64 0, .int .i64 0], .slice none 0 0] 8 rfl (World.shaped_of_RefB (by kernel_rfl) (by kernel_rfl)) (by kernel_rfl) (by kernel_rfl) (by kernel_rfl) (door_met os _)) ?_
  intro W base args ds gs before hval0 hW _ hWt hL _
  have hval : ∀ (j : Nat) t v, Tryz.f4.params[j]? = some t → args[j]? = some v → Value.okWide Tryz.prog W .any base t v := hval0
  have hW' := hW
  obtain ⟨p, q, hA0, hV, rfl, hfz, hnd⟩ := hW
  have hA : DataW.TrodAll enc Tryz.prog W 0 (fun _ => true) true Tryz.f4.params.toList args.toList ds p := hA0
  obtain ⟨rfl, rfl⟩ := trodVars_none hV
  have hAk := hA
  rw [Tryz.params4] at hA hval hWt
  simp only [List.append_nil] at hW'
  have hTab := tab_of_laid hL
  have main : ((Rows.fossilSeqSpec.fn H ds).results = [.lit (.bool true)] ∧ (Rows.fossilSeqSpec.fn H ds).args = ds ∧ (Rows.fossilSeqSpec.fn H ds).vars = []) ∧ Calls Tryz.prog 4 args W fun e W' => e = .returned (.bool true) ∧ Below W.heap.size W W' := by
    clear hAk hfz hnd hval0 hW' hA0 hL
    obtain ⟨v1, v2, d1, d2, p1, p2, rfl, rfl, rfl, h1, h2⟩ := trodAll_two hA
    refine ⟨⟨rfl, rfl, rfl⟩, ?_⟩
    obtain ⟨vs, hs, c, rfl, hc, hw, hwb⟩ := open_cfgB h1 (hval 0 _ _ rfl rfl) (light_two hWt).1
    obtain ⟨l, hl, hlw⟩ := open_ints h2 (hval 1 _ _ rfl rfl)
    exact fossilSeq_calls vs hs c _ l W _ _ _ hc hw hwb hl (Nat.le_trans hlw (by decide)) hTab
  obtain ⟨⟨m1, m2, m3⟩, hc⟩ := main
  refine hc.mono fun e W' ⟨he, hb⟩ => ?_
  subst he
  refine ⟨_, rfl, post_of_below (pa := p) (pv := []) (by simpa using hW') (fun _ _ _ => ?_) (fun sp hsp => ?_) (fun _ _ => ?_) (by simp) hb (ok_one (by kernel_rfl) rfl (okWide_bool_mk Tryz.underlying4 true))⟩
  · simp only [List.append_nil]; rw [m1]; exact trodAll_mk1 (shut_bool Tryz.underlying4 true)
  · simp only [List.append_nil]; rw [m2]; exact trodAll_stays Tryz.laidOut hb Tryz.f4.params.toList _ _ p (by kernel_rfl) hAk (fun x hx => hW'.lt x (by simpa using hx)) (fun x hx => hsp x (by simpa using hx))
  · simp only [List.append_nil]; rw [m3]; exact rfl
theorem fossilSeq_row : Rows.FossilSeqSaid :=
  OpenClaim.holds_of_wide 4 Tryz.f4 rfl rfl rfl rfl rfl rfl rfl ⟨rfl, rfl, rfl, rfl, rfl⟩ rfl rfl rfl rfl rfl (by kernel_rfl) Tryz.func4 (by kernel_rfl)
    (of_decide_eq_true (by kernel_rfl)) (by unfold Func.isWrapper; first | (rw [if_pos (by decide +kernel)]; kernel_rfl) | (rw [if_neg (by decide +kernel)]; exact ⟨rfl, rfl⟩))
    (fun os started H enc _ => fossilSeq_lifted os started H enc)
/-- The tied card. -/
theorem fossilSeq_holds : Rows.FossilSeqCardSaid :=
  Claim7.holds_tied_plain_at .later [] [.data] true (true, "1762c206818e1cb366deecbd0b0d7fe08d26835893a9b6e0a4f214caefb25957") false
    fossilSeq_row (fun _ h => by cases h) (by kernel_rfl) (fun _ h => by cases h) fossilSeq_row_tie rfl ⟨rfl, rfl⟩ (by kernel_rfl) rfl
    (fun f fn hf hfn => by
      obtain rfl : f = 4 := Option.some.inj ((show Tryz.prog.funcNamed "boomerang/boomeranglaw16.FossilSeq" = some 4 by kernel_rfl).symm.trans hf) |>.symm
      obtain rfl : fn = Tryz.f4 := (Option.some.inj (Tryz.func4.symm.trans hfn)).symm
      exact ⟨by kernel_rfl, fun j t ht => by
        rw [Tryz.params4] at ht
        have hm : t ∈ [26, 64] := by simpa using Array.mem_of_getElem? ht
        have hall : ([26, 64].all fun u => !Tryz.prog.wantsStandIn u) = true := by kernel_rfl
        exact (show Tryz.prog.wantsStandIn t = false by simpa using List.all_eq_true.1 hall t hm)⟩)
    (by kernel_rfl)
#print axioms fossilSeq_holds
end Go.Proofs.YtemgonomenjjaaaGreatDoor

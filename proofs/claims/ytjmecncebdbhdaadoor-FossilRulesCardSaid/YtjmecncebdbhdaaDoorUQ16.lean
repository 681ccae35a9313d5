/- boomeranglaw16.FossilRules answers true for every configuration and every case, and leaves its arguments as they were. Its conditions: none beyond the card's own (the table of ops is tied). -/
import Derived.Test.YtjmecncebdbhdaaDoorU06
import Derived.Test.YtjmecncebdbhdaaDoorU17
import Derived.Test.YtjmecncebdbhdaaDoorU31
import Derived.Test.YtjmecncebdbhdaaDoorU30
namespace Go.Proofs.YtjmecncebdbhdaaDoor
open Go Go.ChangeShapes Go.WideShapes Go.ChangeAt Go.RowKit Mem

theorem event_decW {vs : List Value} (h0 : fits i7 vs = true) (hw : ∀ v ∈ vs, wfv v = true) : ∃ k : Event, k.cells = vs ∧ -9223372036854775808 ≤ k.key.at_ := by
  obtain ⟨k, rfl, _⟩ := event_dec vs h0 hw
  refine ⟨k, rfl, ?_⟩
  have h := hw (.int .i64 k.key.at_) (by simp [Event.cells])
  have h2 : (Lit.int .i64 k.key.at_).wf = true := h
  simp [Lit.wf] at h2
  have hm : IntKind.i64.min = -9223372036854775808 := by decide
  omega
section
variable {H : Type} {enc : TypeId × Value → H} {w : World} {base : Nat} {spare : Nat → Bool} {held : Bool}
theorem trod_slO {P : Program} {t e : TypeId} {ks : List TypeDesc} {α : Type} (en : α → List Value) (ok : α → Prop) (k : Nat) (ht : P.underlying t = some (.slice e)) (hl : lay P 100 e = some ks) (hk : P.cellsOf e = ks.length) (hkk : ks.length = k) (h0 : 0 < k) (hen : ∀ x, (en x).length = k)
    (dec : ∀ vs, fits ks vs = true → (∀ v ∈ vs, wfv v = true) → ∃ x : α, en x = vs ∧ ok x) {fuel : Nat} {cs : List Value} {x : DataW H × List MemPlace} (hf : DataW.trod enc P w base spare held fuel t cs = some x) :
    ∃ v, ∃ xs : List α, cs = [v] ∧ SlAt en k w (fun b => b < w.heap.size) v xs ∧ xs.length ≤ maxLen ∧ ∀ y ∈ xs, ok y := by
  obtain ⟨a, c, xs, hcs, h1, hc2, h2, hok, hc⟩ := open_slice_flat en ok ht hl hk (by omega) dec hf
  refine ⟨_, xs, hcs, ⟨a, c, rfl, h1, fun e => (h2 e).2, fun i y hi => ?_⟩, by omega, hok⟩
  obtain ⟨R, o, e, hcell⟩ := hc i y hi
  refine ⟨R, o, e, ?_, fun j u hj => by rw [← hkk]; exact hcell j u hj⟩
  have hy : 0 < (en y).length := by rw [hen]; exact h0
  have := hcell 0 _ (List.getElem?_eq_getElem hy)
  exact Nat.lt_of_not_le fun hge => by simp [World.cell?, Array.getElem?_eq_none hge] at this
set_option maxRecDepth 100000 in
theorem open_caseW {v : Value} {d : DataW H} {p : List MemPlace} {r : Reach} {base2 : Nat} (h : DataW.Trod enc Tryd.prog w base spare held 31 v d p) (hv : Value.okWide Tryd.prog w r base2 31 v) :
    ∃ (lp : Int) (s : State) (vL : Value) (l : List Event), v = .agg #[.int .i64 lp, .int .i64 s.n0, .int .i64 s.n1, .int .i64 s.n2, .int .i64 s.n3, vL] ∧ (Sl true Event.cells 7 vL l).at_ w (fun b => b < w.heap.size) ∧ l.length ≤ maxLen ∧ ∀ x ∈ l, -9223372036854775808 ≤ x.key.at_ := by
  obtain ⟨cs, rfl, _⟩ := okWide_struct Tryd.underlying31 hv
  obtain ⟨fuel, hf⟩ := h
  obtain ⟨xs, n, _, _, hlen, hxl, hfs⟩ := DataW.trod_struct Tryd.underlying31 hf
  have zC : Tryd.prog.cellsOf 31 = 6 := by kernel_rfl
  have zS : Tryd.prog.cellsOf 28 = 4 := by kernel_rfl
  have zL : Tryd.prog.cellsOf 29 = 1 := by kernel_rfl
  have zI : Tryd.prog.cellsOf 3 = 1 := by kernel_rfl
  have e0 : (Value.agg cs).cells.toList = cs.toList := rfl
  rw [e0] at hfs hlen
  rw [zC] at hlen
  obtain ⟨c0, c1, c2, c3, c4, c5, hcs⟩ := list6 hlen
  obtain ⟨y0, y1, y2, rfl⟩ := list3 (show xs.length = 3 from hxl)
  have f0 : DataW.trod enc Tryd.prog w base spare held n 3 [c0] = some y0 := by
    have h : DataW.trod enc Tryd.prog w base spare held n 3 ((cs.toList.drop 0).take (Tryd.prog.cellsOf 3)) = some y0 := hfs 0 _ rfl
    rw [zI, hcs] at h
    exact h
  have f1 : DataW.trod enc Tryd.prog w base spare held n 28 [c1, c2, c3, c4] = some y1 := by
    have h : DataW.trod enc Tryd.prog w base spare held n 28 ((cs.toList.drop 1).take (Tryd.prog.cellsOf 28)) = some y1 := hfs 1 _ rfl
    rw [zS, hcs] at h
    exact h
  have f2 : DataW.trod enc Tryd.prog w base spare held n 29 [c5] = some y2 := by
    have h : DataW.trod enc Tryd.prog w base spare held n 29 ((cs.toList.drop 5).take (Tryd.prog.cellsOf 29)) = some y2 := hfs 2 _ rfl
    rw [zL, hcs] at h
    exact h
  obtain ⟨lp, g0, _⟩ := DataW.trod_int Tryd.underlying3 f0
  obtain ⟨h1, _⟩ := trod_flat 100 28 i4 (by kernel_rfl) (by kernel_rfl) n _ _ f1
  obtain ⟨a, b, c, d, g1⟩ := dec4 h1
  obtain ⟨vL, l, g2, a2, l2, l3⟩ := trod_slO (ks := i7) Event.cells (fun x => -9223372036854775808 ≤ x.key.at_) 7 Tryd.underlying29 (by kernel_rfl) (by kernel_rfl) rfl (by decide) ecells (fun vs => event_decW) f2
  cases g0; cases g1; cases g2
  refine ⟨lp, ⟨a, b, c, d⟩, c5, l, ?_, ⟨a2, fun _ h => h⟩, l2, l3⟩
  congr 1
  rw [← Array.toList_inj, hcs]
end
set_option maxRecDepth 100000 in
theorem fossilRules_lifted (os : Os) (started : os.Started) (H : Type) (enc : TypeId × Value → H) :
    ReturnsInHanded {} Tryd.checked os 3 .any (fun w args => (Rows.fossilRulesSpec.pre enc Tryd.prog Tryd.f3 [] false w args ∧ laidMetH Tryd.prog tabLaid w) ∧ sizedMet enc Tryd.prog Tryd.f3 (OpenSpec.ofChange Rows.fossilRulesSpec) false w args) (Rows.fossilRulesSpec.post enc Tryd.prog Tryd.f3 false true false false) := by
  refine returnsInHanded_of_change_and (C := Tryd.checked) (X := fun w _ => laidMetH Tryd.prog tabLaid w) (fun _ _ _ hh h => h.of_heap hh) Tryd.own started (by kernel_rfl) Tryd.func3
    (ChangeSpec.witness_shaped (enc := enc) (C := Tryd.checked) (os := os) (X := fun w _ => laidMetH Tryd.prog tabLaid w) false (World.doorLaid Tryd.prog 59 os) #[.agg #[.slice none 0 0, .slice none 0 0, .slice none 0 0, .int .i64 0, .int .i64 0, .int .i64 0], .agg #[.int .i64 0, .int .i64 0, .int .i64 0, .int .i64 0, .int .i64 0, .slice none 0 0]] 8 rfl (World.shaped_of_RefB (by kernel_rfl) (by kernel_rfl)) (by kernel_rfl) (by kernel_rfl) (by kernel_rfl) (door_met os _)) ?_
  intro W base args ds gs before hval0 hW _ hWt hL _
  have hval : ∀ (j : Nat) t v, Tryd.f3.params[j]? = some t → args[j]? = some v → Value.okWide Tryd.prog W .any base t v := hval0
  have hW' := hW
  obtain ⟨p, q, hA0, hV, rfl, hfz, hnd⟩ := hW
  have hA : DataW.TrodAll enc Tryd.prog W 0 (fun _ => true) true Tryd.f3.params.toList args.toList ds p := hA0
  obtain ⟨rfl, rfl⟩ := trodVars_none hV
  have hAk := hA
  rw [Tryd.params3] at hA hval hWt
  simp only [List.append_nil] at hW'
  have hTab := tab_of_laid hL
  have main : ((Rows.fossilRulesSpec.fn H ds).results = [.lit (.bool true)] ∧ (Rows.fossilRulesSpec.fn H ds).args = ds ∧ (Rows.fossilRulesSpec.fn H ds).vars = []) ∧ Calls Tryd.prog 3 args W fun e W' => e = .returned (.bool true) ∧ Below W.heap.size W W' := by
    clear hAk hfz hnd hval0 hW' hA0 hL
    obtain ⟨v1, v2, d1, d2, p1, p2, rfl, rfl, rfl, h1, h2⟩ := trodAll_two hA
    refine ⟨⟨rfl, rfl, rfl⟩, ?_⟩
    obtain ⟨vs, hs, c, rfl, hc, hw, hwb⟩ := open_cfgB h1 (hval 0 _ _ rfl rfl) (light_two hWt).1
    obtain ⟨lp, s, vL, l, rfl, hl, hlw, hat⟩ := open_caseW h2 (hval 1 _ _ rfl rfl)
    exact fossilRules_calls vs hs c lp s vL l W _ _ _ hc hw hwb hl (Nat.le_trans hlw (by decide)) hat hTab
  obtain ⟨⟨m1, m2, m3⟩, hc⟩ := main
  refine hc.mono fun e W' ⟨he, hb⟩ => ?_
  subst he
  refine ⟨_, rfl, post_of_below (pa := p) (pv := []) (by simpa using hW') (fun _ _ _ => ?_) (fun sp hsp => ?_) (fun _ _ => ?_) (by simp) hb (ok_one (by kernel_rfl) rfl (okWide_bool_mk Tryd.underlying4 true))⟩
  · simp only [List.append_nil]; rw [m1]; exact trodAll_mk1 (shut_bool Tryd.underlying4 true)
  · simp only [List.append_nil]; rw [m2]; exact trodAll_stays Tryd.laidOut hb Tryd.f3.params.toList _ _ p (by kernel_rfl) hAk (fun x hx => hW'.lt x (by simpa using hx)) (fun x hx => hsp x (by simpa using hx))
  · simp only [List.append_nil]; rw [m3]; exact rfl
theorem fossilRules_row : Rows.FossilRulesSaid :=
  OpenClaim.holds_of_wide 3 Tryd.f3 rfl rfl rfl rfl rfl rfl rfl ⟨rfl, rfl, rfl, rfl, rfl⟩ rfl rfl rfl rfl rfl (by kernel_rfl) Tryd.func3 (by kernel_rfl)
    (of_decide_eq_true (by kernel_rfl)) (by unfold Func.isWrapper; first | (rw [if_pos (by decide +kernel)]; kernel_rfl) | (rw [if_neg (by decide +kernel)]; exact ⟨rfl, rfl⟩))
    (fun os started H enc _ => fossilRules_lifted os started H enc)
/-- The tied card. -/
theorem fossilRules_holds : Rows.FossilRulesCardSaid :=
  Claim7.holds_tied_plain_at .later [] [.data] true (true, "3579d36b01d56da3759c007acab297ced62117d2cb1fb8ae2cd55714e5a79f9f") false
    fossilRules_row (fun _ h => by cases h) (by kernel_rfl) (fun _ h => by cases h) fossilRules_row_tie rfl ⟨rfl, rfl⟩ (by kernel_rfl) rfl
    (fun f fn hf hfn => by
      obtain rfl : f = 3 := Option.some.inj ((show Tryd.prog.funcNamed "boomerang/boomeranglaw16.FossilRules" = some 3 by kernel_rfl).symm.trans hf) |>.symm
      obtain rfl : fn = Tryd.f3 := (Option.some.inj (Tryd.func3.symm.trans hfn)).symm
      exact ⟨by kernel_rfl, fun j t ht => by
        rw [Tryd.params3] at ht
        have hm : t ∈ [26, 31] := by simpa using Array.mem_of_getElem? ht
        have hall : ([26, 31].all fun u => !Tryd.prog.wantsStandIn u) = true := by kernel_rfl
        exact (show Tryd.prog.wantsStandIn t = false by simpa using List.all_eq_true.1 hall t hm)⟩)
    (by kernel_rfl)
#print axioms fossilRules_holds
end Go.Proofs.YtjmecncebdbhdaaDoor

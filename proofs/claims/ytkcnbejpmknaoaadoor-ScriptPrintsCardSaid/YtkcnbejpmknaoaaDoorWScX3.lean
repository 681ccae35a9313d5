/- boomeranglaw21.ScriptPrints answers true for every list of things, and leaves its argument as it was. Its conditions: none beyond the card's own (the listed variables are tied). -/
import Derived.Test.YtkcnbejpmknaoaaDoorW17
import Derived.ChangeMaps5
namespace Go.Proofs.YtkcnbejpmknaoaaDoor
open Go Go.ChangeShapes Go.WideShapes Go.ChangeAt Go.RowKit Mem Go.ChangeMaps

theorem fits_cons {k : TypeDesc} {ks : List TypeDesc} {vs : List Value} (h : fits (k :: ks) vs = true) : ∃ v us, vs = v :: us ∧ fit k v = true ∧ fits ks us = true := by
  cases vs with
  | nil => simp [fits] at h
  | cons v us => simp only [fits, Bool.and_eq_true] at h; exact ⟨v, us, rfl, h.1, h.2⟩
theorem fits_none {vs : List Value} (h : fits [] vs = true) : vs = [] := by
  cases vs with
  | nil => rfl
  | cons v us => simp [fits] at h
theorem fit_int {v : Value} (h : fit (.int .i64) v = true) : ∃ a, v = .int .i64 a := by cases v <;> simp [fit] at h; subst h; exact ⟨_, rfl⟩
theorem fit_bool {v : Value} (h : fit .bool v = true) : ∃ a, v = .bool a := by cases v <;> simp [fit] at h; exact ⟨_, rfl⟩
theorem fits_cons_int {ks : List TypeDesc} {vs : List Value} (h : fits (.int .i64 :: ks) vs = true) : ∃ a us, vs = .int .i64 a :: us ∧ fits ks us = true := by
  obtain ⟨v, us, rfl, h1, h2⟩ := fits_cons h
  obtain ⟨a, rfl⟩ := fit_int h1
  exact ⟨a, us, rfl, h2⟩
abbrev i3 : List TypeDesc := [.int .i64, .int .i64, .int .i64]
theorem do_dec : ∀ vs, fits i3 vs = true → (∀ v ∈ vs, wfv v = true) → ∃ k : DoE, docell k = vs ∧ True := by
  intro vs h0 _
  obtain ⟨a, v1, e1, h1⟩ := fits_cons_int h0
  obtain ⟨b, v2, e2, h2⟩ := fits_cons_int h1
  obtain ⟨c, v3, e3, h3⟩ := fits_cons_int h2
  obtain rfl := fits_none h3
  subst e3
  subst e2
  subst e1
  exact ⟨⟨a, b, c⟩, rfl, trivial⟩
section
variable {P : Program} {H : Type} {enc : TypeId × Value → H}
theorem open_sl {t e : TypeId} {ks : List TypeDesc} {α : Type} (en : α → List Value) (k : Nat) (ht : P.underlying t = some (.slice e)) (hl : lay P 100 e = some ks) (hk : P.cellsOf e = ks.length) (hkk : ks.length = k) (h0 : 0 < k) (hen : ∀ x, (en x).length = k)
    (dec : ∀ vs, fits ks vs = true → (∀ v ∈ vs, wfv v = true) → ∃ x : α, en x = vs ∧ True) {w : World} {base : Nat} {spare : Nat → Bool} {held : Bool} {v : Value} {d : DataW H} {p : List MemPlace} {r : Reach} {base2 : Nat}
    (h : DataW.Trod enc P w base spare held t v d p) (hv : Value.okWide P w r base2 t v) : ∃ xs : List α, (Sl true en k v xs).at_ w (fun b => b < w.heap.size) := by
  obtain ⟨fuel, hf⟩ := h
  obtain ⟨a, c, xs, hcs, h1, _, h2, _, hc⟩ := open_slice_flat en (fun _ => True) ht hl hk (by omega) dec hf
  obtain ⟨x, len, cap, rfl⟩ := okWide_slice ht hv
  simp [Value.cells] at hcs
  obtain ⟨rfl, rfl, rfl⟩ := hcs
  refine ⟨xs, ⟨x, cap, rfl, h1, fun e => (h2 e).2, fun i y hi => ?_⟩, fun b hb => hb⟩
  obtain ⟨R, o, e, hcell⟩ := hc i y hi
  refine ⟨R, o, e, ?_, fun j u hj => by rw [← hkk]; exact hcell j u hj⟩
  have hy : 0 < (en y).length := by rw [hen]; exact h0
  have := hcell 0 _ (List.getElem?_eq_getElem hy)
  exact Nat.lt_of_not_le fun hge => by simp [World.cell?, Array.getElem?_eq_none hge] at this
end

set_option maxRecDepth 100000 in
theorem scriptPrints_lifted (os : Os) (started : os.Started) (H : Type) (enc : TypeId × Value → H) :
    ReturnsInHanded {} Tryd.checked os 5 .any (fun w args => (Rows.scriptPrintsSpec.pre enc Tryd.prog Tryd.f5 [] false w args ∧ laidMetH Tryd.prog lay21 w) ∧ sizedMet enc Tryd.prog Tryd.f5 (OpenSpec.ofChange Rows.scriptPrintsSpec) false w args) (Rows.scriptPrintsSpec.post enc Tryd.prog Tryd.f5 false true false false) := by
  refine frame21 started (by kernel_rfl) Tryd.func5
    (ChangeSpec.witness_shaped (enc := enc) (C := Tryd.checked) (os := os) (X := fun w _ => laidMetH Tryd.prog lay21 w) false (wit21 os) #[.slice none 0 0] 8 rfl (shape21 os _) (by kernel_rfl) (by kernel_rfl) (by kernel_rfl) (met21 os _)) ?_
  intro W base args ds gs before hval0 hW hL hsh
  have hval : ∀ (j : Nat) t v, Tryd.f5.params[j]? = some t → args[j]? = some v → Value.okWide Tryd.prog W .any base t v := hval0
  have hW' := hW
  obtain ⟨p, q, hA0, hV, rfl, hfz, hnd⟩ := hW
  have hA : DataW.TrodAll enc Tryd.prog W 0 (fun _ => true) true Tryd.f5.params.toList args.toList ds p := hA0
  obtain ⟨rfl, rfl⟩ := trodVars_none hV
  have hAk := hA
  rw [Tryd.params5] at hA hval
  simp only [List.append_nil] at hW'
  have main : ((Rows.scriptPrintsSpec.fn H ds).results = [.lit (.bool true)] ∧ (Rows.scriptPrintsSpec.fn H ds).args = ds ∧ (Rows.scriptPrintsSpec.fn H ds).vars = []) ∧ Calls Tryd.prog 5 args W fun e W' => e = .returned (.bool true) ∧ Below W.heap.size W W' := by
    clear hAk hfz hnd hval0 hW' hA0
    obtain ⟨v1, d1, rfl, rfl, h1⟩ := trodAll_one hA
    refine ⟨⟨rfl, rfl, rfl⟩, ?_⟩
    obtain ⟨tE, pE, hLib⟩ := lib_of_laid hL hsh
    obtain ⟨l, hl⟩ := open_sl docell 3 Tryd.underlying23 (ks := i3) (by kernel_rfl) (by kernel_rfl) rfl (by omega) docells do_dec h1 (hval 0 _ _ rfl rfl)
    exact prints_calls tE pE v1 l W _ _ _ hLib (forms_of_laid hL) hl
  obtain ⟨⟨m1, m2, m3⟩, hc⟩ := main
  refine hc.mono fun e W' ⟨he, hb⟩ => ?_
  subst he
  refine ⟨_, rfl, post_of_below (pa := p) (pv := []) (by simpa using hW') (fun _ _ _ => ?_) (fun sp hsp => ?_) (fun _ _ => ?_) (by simp) hb (ok_one (by kernel_rfl) rfl (okWide_bool_mk Tryd.underlying4 true))⟩
  · simp only [List.append_nil]; rw [m1]; exact trodAll_mk1 (shut_bool Tryd.underlying4 true)
  · simp only [List.append_nil]; rw [m2]; exact trodAll_stays Tryd.laidOut hb Tryd.f5.params.toList _ _ p (by kernel_rfl) hAk (fun x hx => hW'.lt x (by simpa using hx)) (fun x hx => hsp x (by simpa using hx))
  · simp only [List.append_nil]; rw [m3]; exact rfl
theorem scriptPrints_row : Rows.ScriptPrintsSaid :=
  OpenClaim.holds_of_wide 5 Tryd.f5 rfl rfl rfl rfl rfl rfl rfl ⟨rfl, rfl, rfl, rfl, rfl⟩ rfl rfl rfl rfl rfl (by kernel_rfl) Tryd.func5 (by kernel_rfl)
    (of_decide_eq_true (by kernel_rfl)) (by unfold Func.isWrapper; first | (rw [if_pos (by decide +kernel)]; kernel_rfl) | (rw [if_neg (by decide +kernel)]; exact ⟨rfl, rfl⟩))
    (fun os started H enc _ => scriptPrints_lifted os started H enc)
/-- The tied card. -/
theorem scriptPrints_holds : Rows.ScriptPrintsCardSaid :=
  Claim7.holds_tied_plain_at .later [] [.data, .data, .data, .data, .sentinel, .sentinel, .data, .pinned] true (true, "281471c1e3fdc6657c590842e6cccd248a3885096aa93dc12f181f41bf29a17a") true
    scriptPrints_row (fun _ h => by cases h) (by kernel_rfl) (fun _ h => by cases h) scriptPrints_row_tie rfl ⟨rfl, rfl⟩ (by kernel_rfl) rfl
    (fun f fn hf hfn => by
      obtain rfl : f = 5 := Option.some.inj ((show Tryd.prog.funcNamed "boomerang/boomeranglaw21.ScriptPrints" = some 5 by kernel_rfl).symm.trans hf) |>.symm
      obtain rfl : fn = Tryd.f5 := (Option.some.inj (Tryd.func5.symm.trans hfn)).symm
      exact ⟨by kernel_rfl, fun j t ht => by
        rw [Tryd.params5] at ht
        have hm : t ∈ [23] := by simpa using Array.mem_of_getElem? ht
        have hall : ([23].all fun u => !Tryd.prog.wantsStandIn u) = true := by kernel_rfl
        exact (show Tryd.prog.wantsStandIn t = false by simpa using List.all_eq_true.1 hall t hm)⟩)
    (by kernel_rfl)
#print axioms scriptPrints_holds
end Go.Proofs.YtkcnbejpmknaoaaDoor

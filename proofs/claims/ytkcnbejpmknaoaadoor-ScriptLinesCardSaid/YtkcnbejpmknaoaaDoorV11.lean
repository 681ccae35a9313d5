import Derived.Test.YtkcnbejpmknaoaaDoorTie
import Derived.Test.YtkcnbejpmknaoaaDoorCards
import Derived.Test.YtkcnbejpmknaoaaDoorV08
import Derived.Test.YtkcnbejpmknaoaaDoorV09
import Derived.MakeChecks
import Derived.LaidMore
import Derived.Stop.Joined
import Derived.SevenTiedAt
import Derived.Lib.LaidU8
import Derived.Lib.LaidTab
import Derived.Shelf.Vars
/- The listed variables, as the rows' condition has them; and a world that meets it. -/
namespace Go.Proofs.YtkcnbejpmknaoaaDoor
open Go Go.ChangeShapes Go.WideShapes Go.ChangeAt Go.RowKit Mem

theorem Tryd.own : ownKnob Tryd.prog.godebug = none := by kernel_rfl
theorem Tryd.laidOut : laidOutB Tryd.prog = true := by kernel_rfl
def lay21 : List (String × DataW Unit) := Rows.scriptReadsRow.laid
noncomputable def wit21 (os : Os) : World :=
  { World.doorLaid Tryd.prog 81 os with heap := (World.doorLaid Tryd.prog 81 os).heap.modify 3 fun o => match o with
    | .cells _ t frozen => .cells (Lib.firstTab.map fun z => Value.int .u8 z).toArray t frozen
    | o => o }
set_option maxRecDepth 100000 in
theorem met21 (os : Os) (args : Array Value) : laidMetH Tryd.prog lay21 ((wit21 os).forCall (fun _ _ => 0) ⟨#[], args, []⟩).memory :=
  laidMetH_of_parts3 (fuel := 8) (laidMet_of_run' 8 (by kernel_rfl) (by kernel_rfl)) (by kernel_rfl) (by kernel_rfl)
set_option maxRecDepth 100000 in
theorem shape21 (os : Os) (args : Array Value) : ((wit21 os).forCall (fun _ _ => 0) ⟨#[], args, []⟩).Shaped Tryd.prog := World.shaped_of_RefB (by kernel_rfl) (by kernel_rfl)
theorem lay_some {P : Program} {t : TypeId} (h : (lay P 100 t).isSome = true) (h2 : P.cellsOf t = ((lay P 100 t).getD []).length) : ∃ ks, lay P 100 t = some ks ∧ P.cellsOf t = ks.length := by
  obtain ⟨ks, hk⟩ := Option.isSome_iff_exists.1 h
  exact ⟨ks, hk, by rw [h2, hk]; rfl⟩
theorem laid21 {W : World} (h : laidMetH Tryd.prog lay21 W) : laidMet Tryd.prog lay21 W := by
  rw [MakeChecks.laidMetH_plain _ _ _ (by kernel_rfl)] at h; exact h
theorem gForms : Tryd.prog.globalNamed "boomerang/script.forms" = some 0 := by kernel_rfl
theorem tForms : (Tryd.prog.globals[0]?).map (·.type) = some 70 := by kernel_rfl
theorem tPow : (Tryd.prog.globals[2]?).map (·.type) = some 99 := by kernel_rfl
theorem gBits : Tryd.prog.globalNamed "math/bits.deBruijn64tab" = some 8 := by kernel_rfl
theorem gRange : Tryd.prog.globalNamed "strconv.ErrRange" = some 6 := by kernel_rfl
theorem tRange : (Tryd.prog.globals[6]?).map (·.type) = some 55 := by kernel_rfl
set_option maxRecDepth 100000 in
theorem forms_of_laid {W : World} (h : laidMetH Tryd.prog lay21 W) : FormsT.at_ W (fun b => b = 0) := by
  obtain ⟨g0, t0, cs0, f0, p0, hg0, ht0, hv0, hd0⟩ := Lib.laidMet.reads (laid21 h) (n := "boomerang/script.forms") (d := Rows.laid_boomerang_script_forms) (by unfold lay21 Rows.scriptReadsRow; simp)
  obtain rfl := Option.some.inj (gForms.symm.trans hg0)
  obtain rfl := Option.some.inj (tForms.symm.trans ht0)
  obtain ⟨ks, hk, hc⟩ := lay_some (P := Tryd.prog) (t := 70) (by kernel_rfl) (by kernel_rfl)
  have e := trod_cells 100 70 ks hk hc _ _ _ hd0
  have e2 : cellsD 100 (Rows.laid_boomerang_script_forms : DataW Unit) = flatE fmcell formsL := by kernel_rfl
  have e3 : cs0.toList = flatE fmcell formsL := e.trans e2
  have hcell : ∀ i, W.cell? ⟨0, i, none⟩ = (flatE fmcell formsL)[i]? := fun i => by
    rw [World.var?_cell gForms hv0 i, ← e3, Array.getElem?_toList]
  have acells : ∀ x : List UInt8 × Nat, (fmcell x).length = 2 := fun _ => rfl
  refine ⟨⟨some ⟨0, 0, none⟩, 4, rfl, by rw [forms_len]; exact Nat.le_refl _, (fun h => by cases h), fun i x hi => ⟨0, 0, rfl, rfl, fun j u hj => ?_⟩⟩, fun b hb => ?_⟩
  · have hj6 : j < 2 := by rw [← acells x]; exact (List.getElem?_eq_some_iff.1 hj).1
    rw [hcell, Nat.zero_add, flatE_get acells hi j hj6]
    exact hj
  · subst hb
    have h0 := hcell 0
    cases hz : W.heap[0]? with
    | none => exfalso; simp only [World.cell?, hz] at h0; exact absurd h0 (by rw [flatE_get acells (i := 0) (x := formsL[0]) rfl 0 (by decide)]; simp [fmcell])
    | some o => exact (Array.getElem?_eq_some_iff.1 hz).1
theorem iface_of_trod {P : Program} {w : World} {fuel : Nat} {t : TypeId} {ms : Array (String × TypeId)} {cs : List Value} {n : String} {d : DataW Unit} {p : List MemPlace} (ht : P.underlying t = some (.interface ms))
    (h : DataW.trod (fun _ => ()) P w 0 (fun _ => true) false fuel t cs = some (.iface n d, p)) : ∃ u v, cs = [.iface u v] := by
  cases fuel with
  | zero => simp [DataW.trod] at h
  | succ k =>
    match cs, h with
    | [], h => simp [DataW.trod, ht] at h
    | [v], h => cases v <;> simp [DataW.trod, ht] at h; exact ⟨_, _, rfl⟩
    | v :: v2 :: r, h => cases v <;> simp [DataW.trod, ht] at h
set_option maxRecDepth 100000 in
theorem lib_of_laid {W : World} (h : laidMetH Tryd.prog lay21 W) (hs : W.ShapedOpen Tryd.prog) : ∃ tE pE, (LibA tE pE).at_ W (fun b => b < 9) := by
  obtain ⟨g0, t0, cs0, f0, p0, hg0, ht0, hv0, hd0⟩ := Lib.laidMet.reads (laid21 h) (n := "strconv.ErrRange") (d := Rows.laid_strconv_ErrRange) (by unfold lay21 Rows.scriptReadsRow; simp)
  obtain rfl := Option.some.inj (gRange.symm.trans hg0)
  obtain rfl := Option.some.inj (tRange.symm.trans ht0)
  obtain ⟨tE, pE, e⟩ := iface_of_trod Tryd.underlying55 hd0
  have hcell : W.cell? ⟨6, 0, none⟩ = some (.iface tE pE) := by
    rw [World.var?_cell gRange hv0 0, ← Array.getElem?_toList, e]; rfl
  obtain ⟨g2, t2, cs2, f2, p2, hg2, ht2, hv2, hd2⟩ := Lib.laidMet.reads (laid21 h) (n := "internal/strconv.uint64pow10") (d := Rows.laid_internal_strconv_uint64pow10) (by unfold lay21 Rows.scriptReadsRow; simp)
  obtain rfl := Option.some.inj (gPow.symm.trans hg2)
  obtain rfl := Option.some.inj (tPow.symm.trans ht2)
  have e2 : (Rows.laid_internal_strconv_uint64pow10 : DataW Unit) = Lib.tabData .u64 Lib.pow10Tab := by kernel_rfl
  rw [e2] at hd2
  have e3 := Lib.cells_of_tab Tryd.underlying99 Tryd.underlying91 (by kernel_rfl) (by kernel_rfl) hd2
  obtain ⟨_, _, cs8, _, _, _, _, hv8, _⟩ := Lib.laidMet.reads (laid21 h) (n := "math/bits.deBruijn64tab") (d := Rows.laid_math_bits_deBruijn64tab) (by unfold lay21 Rows.scriptReadsRow; simp)
  refine ⟨tE, pE, ⟨?_, ?_, hcell, ?_⟩, fun b => Iff.rfl⟩
  · cases hz : W.heap[8]? with
    | none => simp [World.var?, gBits, hz] at hv8
    | some o => have := (Array.getElem?_eq_some_iff.1 hz).1; omega
  · exact cell_of_shapedOpen_int (g := 1) (t := 3) (zero := #[.int .i64 0]) hs (by decide +kernel) (by kernel_rfl) rfl (by kernel_rfl) (by kernel_rfl) Tryd.underlying3
  · unfold Lib.TabIs
    rw [hv2, ← e3]
set_option maxRecDepth 100000 in
theorem frame21 {H : Type} {enc : TypeId × Value → H} {os : Os} {f : FuncId} {fn : Func} {s : ChangeSpec}
    (started : os.Started) (noInit : Tryd.prog.inits.idxOf? f = none) (hfn : Tryd.prog.funcs[f]? = some fn)
    (witness : ∃ (w : World) (tape : Tape) (i : Input), w.os = os ∧ (w.forCall tape i).Shaped Tryd.prog ∧ i.vars = [] ∧ Input.okWide Tryd.prog (w.forCall tape i) .any w.heap.size f i ∧
      ((s.pre enc Tryd.prog fn [] false (w.forCall tape i).memory i.args ∧ laidMetH Tryd.prog lay21 (w.forCall tape i).memory) ∧ sizedMet enc Tryd.prog fn (OpenSpec.ofChange s) false (w.forCall tape i).memory i.args) ∧ ({} : Assume).holds Tryd.prog (lone (Frame.enter Tryd.prog f i.args .normal) [] (w.forCall tape i)))
    (body : ∀ (W : World) (base : Nat) (args : Array Value) (ds gs : List (DataW H)) (before : List MemPlace),
      (∀ (j : Nat) t v, fn.params[j]? = some t → args[j]? = some v → Value.okWide Tryd.prog W .any base t v) →
      DataW.Whole enc Tryd.prog fn.params.toList s.vars false W args.toList ds gs before →
      laidMetH Tryd.prog lay21 W → W.ShapedOpen Tryd.prog →
      Calls Tryd.prog f args W fun e W' => ∃ v, e = .returned v ∧ s.post enc Tryd.prog fn false true false false W args v W') :
    ReturnsInHanded {} Tryd.checked os f .any (fun w args => (s.pre enc Tryd.prog fn [] false w args ∧ laidMetH Tryd.prog lay21 w) ∧ sizedMet enc Tryd.prog fn (OpenSpec.ofChange s) false w args) (s.post enc Tryd.prog fn false true false false) := by
  refine returnsInHanded_of_calls (C := Tryd.checked) Tryd.own started noInit witness ?_
  intro w tape i _ hsh _ hok hpre _
  obtain ⟨_, _, _, fn', hfn', _, _, _, _, hval⟩ := hok
  obtain rfl : fn' = fn := Option.some.inj (hfn'.symm.trans hfn)
  obtain ⟨⟨⟨ds, gs, before, hw, hc⟩, hx⟩, hz⟩ := hpre
  refine (body (w.forCall tape i) w.heap.size i.args ds gs before hval (DataW.Whole.of_heap (w' := w.forCall tape i) (by rfl) hw) (hx.of_heap (by rfl)) hsh).mono ?_
  rintro e W' ⟨v, rfl, hp⟩
  exact ChangeSpec.post_blind hp
end Go.Proofs.YtkcnbejpmknaoaaDoor

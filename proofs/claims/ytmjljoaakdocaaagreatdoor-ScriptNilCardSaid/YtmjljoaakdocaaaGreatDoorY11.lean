import Derived.Test.YtmjljoaakdocaaaGreatDoorY10
import Derived.LaidMore
import Derived.Test.YtmjljoaakdocaaaGreatDoorTie
import Derived.Test.YtmjljoaakdocaaaGreatDoorCards
import Derived.Test.YtmjljoaakdocaaaGreatDoorY09
import Derived.MakeChecks
import Derived.Lay
import Derived.Stop.Joined
import Derived.SevenTiedAt
import Derived.Lib.LaidU8
import Derived.Lib.LaidTab
import Derived.Shelf.Vars
/- A plain datum tells the cells that read as it: what a listed table holds. Over any program. -/
namespace Go.Proofs.YtmjljoaakdocaaaGreatDoor.Mem
open Go.RowKit Go.WideShapes Go.ChangeShapes Go.Deep
section
variable {H : Type} {enc : TypeId × Value → H} {P : Program} {w : World} {base : Nat} {spare : Nat → Bool} {held : Bool}
def cellsD : Nat → DataW H → List Value
  | _ + 1, .lit (.int k n) => [.int k n]
  | _ + 1, .lit (.string s) => [.string ⟨s.toArray⟩]
  | _ + 1, .lit (.bool b) => [.bool b]
  | d + 1, .agg xs => xs.flatMap (cellsD d)
  | _, _ => []
theorem trod_cells : ∀ (d : Nat) (t : TypeId) (ks : List TypeDesc), lay P d t = some ks → P.cellsOf t = ks.length → ∀ (fuel : Nat) (cs : List Value) (x : DataW H × List MemPlace),
    DataW.trod enc P w base spare held fuel t cs = some x → cs = cellsD d x.1
  | 0, _, _, h, _, _, _, _, _ => by cases h
  | d + 1, t, ks, h, hc, fuel, cs, x, hx => by
    unfold lay at h
    cases hu : P.underlying t with
    | none => rw [hu] at h; cases h
    | some u =>
      rw [hu] at h
      cases u <;> simp only [reduceCtorEq, Option.some.injEq] at h
      case int k =>
        obtain ⟨n, rfl, rfl, _⟩ := DataW.trod_int hu hx
        rfl
      case string =>
        obtain ⟨s, rfl, rfl, _⟩ := DataW.trod_string hu hx
        simp [cellsD]
      case bool =>
        obtain ⟨b, rfl, rfl⟩ := DataW.trod_bool hu hx
        rfl
      case struct fs =>
        split at h
        · cases h
        · obtain ⟨xs, n, _, rfl, hlen, hxl, hf⟩ := DataW.trod_struct hu hx
          have key : ∀ (l : List Field) (i off : Nat) (ks : List TypeDesc), (∀ j f, l[j]? = some f → fs[i + j]? = some f) → layFields P (lay P d) l off = some ks → off + ks.length ≤ cs.length →
              (cs.drop off).take ks.length = ((xs.drop i).take l.length).flatMap (fun y => cellsD d y.1) := by
            intro l
            induction l with
            | nil => intro i off ks _ h _; simp only [layFields, Option.some.injEq] at h; subst h; simp
            | cons f l ih =>
              intro i off ks hl h hle
              unfold layFields at h
              split at h
              · cases h
              · rename_i hno
                have hoff : f.offset = off := by have := not_or.1 hno; exact Decidable.not_not.1 this.2
                split at h
                · cases h
                · rename_i k1 hk1
                  split at h
                  · cases h
                  · rename_i hsz
                    have hsz' := Decidable.not_not.1 hsz
                    split at h
                    · cases h
                    · rename_i r hr
                      simp only [Option.some.injEq] at h
                      subst h
                      rw [List.length_append] at hle
                      have hfi : fs[i]? = some f := hl 0 f rfl
                      have h1 := hf i f hfi
                      have hix : i < xs.length := by rw [hxl]; exact (Array.getElem?_eq_some_iff.1 hfi).1
                      obtain ⟨y, hy⟩ : ∃ y, xs[i]? = some y := ⟨_, List.getElem?_eq_getElem hix⟩
                      rw [hy, hoff, hsz'] at h1
                      have a1 := trod_cells d f.type k1 hk1 hsz' n _ y h1
                      have a2 := ih (i + 1) (off + k1.length) r (fun j g hg => by have := hl (j + 1) g (by simpa using hg); rwa [show i + 1 + j = i + (j + 1) by omega]) hr (by omega)
                      have e : (cs.drop off).take (k1 ++ r).length = (cs.drop off).take k1.length ++ (cs.drop (off + k1.length)).take r.length := by
                        rw [List.length_append, List.take_add, List.drop_drop]
                      have e2 : xs.drop i = y :: xs.drop (i + 1) := by
                        rw [List.drop_eq_getElem_cons hix]; congr 1; rw [List.getElem?_eq_getElem hix] at hy; exact Option.some.inj hy
                      rw [e, a1, a2, e2]
                      simp
          have := key fs.toList 0 0 ks (fun j f hj => by simpa using hj) h (by omega)
          rw [List.drop_zero, List.take_of_length_le (by omega), List.drop_zero, List.take_of_length_le (by simp; omega)] at this
          rw [this]
          simp [cellsD, List.flatMap_map]
      case array m e =>
        cases hd : lay P d e with
        | none => rw [hd] at h; cases h
        | some k1 =>
          rw [hd] at h
          simp only at h
          split at h
          · cases h
          · rename_i hsz
            have hsz' := Decidable.not_not.1 hsz
            simp only [Option.some.injEq] at h
            obtain ⟨xs, n, _, rfl, hlen, hxl, hf⟩ := DataW.trod_array hu hx
            have key : ∀ (q i : Nat), i + q ≤ m → (cs.drop (i * k1.length)).take (q * k1.length) = ((xs.drop i).take q).flatMap (fun y => cellsD d y.1) := by
              intro q
              induction q with
              | zero => intro i _; simp
              | succ q ih =>
                intro i hi
                have h1 := hf i (by omega)
                have hix : i < xs.length := by omega
                obtain ⟨y, hy⟩ : ∃ y, xs[i]? = some y := ⟨_, List.getElem?_eq_getElem hix⟩
                rw [hy, hsz'] at h1
                have a1 := trod_cells d e k1 hd hsz' n _ y h1
                have a2 := ih (i + 1) (by omega)
                have e : (cs.drop (i * k1.length)).take ((q + 1) * k1.length) = (cs.drop (i * k1.length)).take k1.length ++ (cs.drop ((i + 1) * k1.length)).take (q * k1.length) := by
                  rw [show (q + 1) * k1.length = k1.length + q * k1.length by rw [Nat.add_mul]; omega, List.take_add, List.drop_drop, show (i + 1) * k1.length = i * k1.length + k1.length by rw [Nat.add_mul]; omega]
                have e2 : xs.drop i = y :: xs.drop (i + 1) := by
                  rw [List.drop_eq_getElem_cons hix]; congr 1; rw [List.getElem?_eq_getElem hix] at hy; exact Option.some.inj hy
                rw [e, a1, a2, e2]
                simp
            have := key m 0 (by omega)
            subst h
            have hl2 : ((List.replicate m k1).flatten).length = m * k1.length := by simp
            rw [hl2] at hc
            rw [Nat.zero_mul, List.drop_zero, List.take_of_length_le (by omega), List.drop_zero, List.take_of_length_le (by omega)] at this
            rw [this]
            simp [cellsD, List.flatMap_map]
end
end Go.Proofs.YtmjljoaakdocaaaGreatDoor.Mem
/- The listed variables, as the rows' condition has them; and a world that meets it. -/
namespace Go.Proofs.YtmjljoaakdocaaaGreatDoor
open Go Go.ChangeShapes Go.WideShapes Go.ChangeAt Go.RowKit Mem

theorem Tryz.own : ownKnob Tryz.prog.godebug = none := by kernel_rfl
theorem Tryz.laidOut : laidOutB Tryz.prog = true := by kernel_rfl
def lay21 : List (String × DataW Unit) := Rows.scriptNilRow.laid
noncomputable def wit21 (os : Os) : World := World.laidAll Tryz.prog os lay21
set_option maxRecDepth 100000 in
theorem met21 (os : Os) (args : Array Value) : laidMetH Tryz.prog lay21 ((wit21 os).forCall (fun _ _ => 0) ⟨#[], args, []⟩).memory := by
  rw [MakeChecks.laidMetH_plain _ _ _ (by kernel_rfl)]
  exact laidMet_laidAll args (by kernel_rfl) (by kernel_rfl)
set_option maxRecDepth 100000 in
theorem shape21 (os : Os) (args : Array Value) : ((wit21 os).forCall (fun _ _ => 0) ⟨#[], args, []⟩).Shaped Tryz.prog := World.shaped_of_ZipB (by kernel_rfl) (by kernel_rfl)
theorem lay_some {P : Program} {t : TypeId} (h : (lay P 100 t).isSome = true) (h2 : P.cellsOf t = ((lay P 100 t).getD []).length) : ∃ ks, lay P 100 t = some ks ∧ P.cellsOf t = ks.length := by
  obtain ⟨ks, hk⟩ := Option.isSome_iff_exists.1 h
  exact ⟨ks, hk, by rw [h2, hk]; rfl⟩
theorem laid21 {W : World} (h : laidMetH Tryz.prog lay21 W) : laidMet Tryz.prog lay21 W := by
  rw [MakeChecks.laidMetH_plain _ _ _ (by kernel_rfl)] at h; exact h
theorem gForms : Tryz.prog.globalNamed "boomerang/script.forms" = some 0 := by kernel_rfl
theorem tForms : (Tryz.prog.globals[0]?).map (·.type) = some 233 := by kernel_rfl
theorem tPow : (Tryz.prog.globals[7]?).map (·.type) = some 447 := by kernel_rfl
theorem gBits : Tryz.prog.globalNamed "math/bits.deBruijn64tab" = some 9 := by kernel_rfl
theorem gRange : Tryz.prog.globalNamed "strconv.ErrRange" = some 6 := by kernel_rfl
theorem tRange : (Tryz.prog.globals[6]?).map (·.type) = some 317 := by kernel_rfl
set_option maxRecDepth 100000 in
theorem forms_of_laid {W : World} (h : laidMetH Tryz.prog lay21 W) : FormsT.at_ W (fun b => b = 0) := by
  obtain ⟨g0, t0, cs0, f0, p0, hg0, ht0, hv0, hd0⟩ := Lib.laidMet.reads (laid21 h) (n := "boomerang/script.forms") (d := Rows.laid_boomerang_script_forms) (by unfold lay21 Rows.scriptNilRow; simp)
  obtain rfl := Option.some.inj (gForms.symm.trans hg0)
  obtain rfl := Option.some.inj (tForms.symm.trans ht0)
  obtain ⟨ks, hk, hc⟩ := lay_some (P := Tryz.prog) (t := 233) (by kernel_rfl) (by kernel_rfl)
  have e := trod_cells 100 233 ks hk hc _ _ _ hd0
  have e2 : cellsD 100 (Rows.laid_boomerang_script_forms : DataW Unit) = flatE fmcell formsL := by kernel_rfl
  have e3 : cs0.toList = flatE fmcell formsL := e.trans e2
  have hcell : ∀ i, W.cell? ⟨0, i, none⟩ = (flatE fmcell formsL)[i]? := fun i => by
    rw [World.var?_cell gForms hv0 i, ← e3, Array.getElem?_toList]
  have acells : ∀ x : List UInt8 × Nat, (fmcell x).length = 2 := fun _ => rfl
  refine ⟨⟨some ⟨0, 0, none⟩, 4, rfl, by rw [forms_len]; exact Nat.le_refl _, (fun h => by cases h), fun i x hi => ⟨0, 0, rfl, rfl, fun j u hj => ?_⟩⟩, fun b hb => ?_⟩
  · have hj6 : j < 2 := by rw [← acells x]; exact (List.getElem?_eq_some_iff.1 hj).1
    rw [hcell, Nat.zero_add, flatE_get acells hi j hj6]
    exact hj
  · subst hb
    have h0 := hcell 0
    cases hz : W.heap[0]? with
    | none => exfalso; simp only [World.cell?, hz] at h0; exact absurd h0 (by rw [flatE_get acells (i := 0) (x := formsL[0]) rfl 0 (by decide)]; simp [fmcell])
    | some o => exact (Array.getElem?_eq_some_iff.1 hz).1
theorem iface_of_trod {P : Program} {w : World} {fuel : Nat} {t : TypeId} {ms : Array (String × TypeId)} {cs : List Value} {n : String} {d : DataW Unit} {p : List MemPlace} (ht : P.underlying t = some (.interface ms))
    (h : DataW.trod (fun _ => ()) P w 0 (fun _ => true) false fuel t cs = some (.iface n d, p)) : ∃ u v, cs = [.iface u v] := by
  cases fuel with
  | zero => simp [DataW.trod] at h
  | succ k =>
    match cs, h with
    | [], h => simp [DataW.trod, ht] at h
    | [v], h => cases v <;> simp [DataW.trod, ht] at h; exact ⟨_, _, rfl⟩
    | v :: v2 :: r, h => cases v <;> simp [DataW.trod, ht] at h
set_option maxRecDepth 100000 in
theorem lib_of_laid {W : World} (h : laidMetH Tryz.prog lay21 W) (hs : W.ShapedOpen Tryz.prog) : ∃ tE pE, (LibA tE pE).at_ W (fun b => b < 10) := by
  obtain ⟨g0, t0, cs0, f0, p0, hg0, ht0, hv0, hd0⟩ := Lib.laidMet.reads (laid21 h) (n := "strconv.ErrRange") (d := Rows.laid_strconv_ErrRange) (by unfold lay21 Rows.scriptNilRow; simp)
  obtain rfl := Option.some.inj (gRange.symm.trans hg0)
  obtain rfl := Option.some.inj (tRange.symm.trans ht0)
  obtain ⟨tE, pE, e⟩ := iface_of_trod Tryz.underlying317 hd0
  have hcell : W.cell? ⟨6, 0, none⟩ = some (.iface tE pE) := by
    rw [World.var?_cell gRange hv0 0, ← Array.getElem?_toList, e]; rfl
  obtain ⟨g2, t2, cs2, f2, p2, hg2, ht2, hv2, hd2⟩ := Lib.laidMet.reads (laid21 h) (n := "internal/strconv.uint64pow10") (d := Rows.laid_internal_strconv_uint64pow10) (by unfold lay21 Rows.scriptNilRow; simp)
  obtain rfl := Option.some.inj (gPow.symm.trans hg2)
  obtain rfl := Option.some.inj (tPow.symm.trans ht2)
  have e2 : (Rows.laid_internal_strconv_uint64pow10 : DataW Unit) = Lib.tabData .u64 Lib.pow10Tab := by kernel_rfl
  rw [e2] at hd2
  have e3 := Lib.cells_of_tab Tryz.underlying447 Tryz.underlying350 (by kernel_rfl) (by kernel_rfl) hd2
  obtain ⟨_, _, cs8, _, _, _, _, hv8, _⟩ := Lib.laidMet.reads (laid21 h) (n := "math/bits.deBruijn64tab") (d := Rows.laid_math_bits_deBruijn64tab) (by unfold lay21 Rows.scriptNilRow; simp)
  refine ⟨tE, pE, ⟨?_, ?_, hcell, ?_⟩, fun b => Iff.rfl⟩
  · cases hz : W.heap[9]? with
    | none => simp [World.var?, gBits, hz] at hv8
    | some o => have := (Array.getElem?_eq_some_iff.1 hz).1; omega
  · exact cell_of_shapedOpen_int (g := 2) (t := 3) (zero := #[.int .i64 0]) hs (by decide +kernel) (by kernel_rfl) rfl (by kernel_rfl) (by kernel_rfl) Tryz.underlying3
  · unfold Lib.TabIs
    rw [hv2, ← e3]
set_option maxRecDepth 100000 in
theorem frame21 {H : Type} {enc : TypeId × Value → H} {os : Os} {f : FuncId} {fn : Func} {s : ChangeSpec}
    (started : os.Started) (noInit : Tryz.prog.inits.idxOf? f = none) (hfn : Tryz.prog.funcs[f]? = some fn)
    (witness : ∃ (w : World) (tape : Tape) (i : Input), w.os = os ∧ (w.forCall tape i).Shaped Tryz.prog ∧ i.vars = [] ∧ Input.okWide Tryz.prog (w.forCall tape i) .any w.heap.size f i ∧
      ((s.pre enc Tryz.prog fn [] false (w.forCall tape i).memory i.args ∧ laidMetH Tryz.prog lay21 (w.forCall tape i).memory) ∧ sizedMet enc Tryz.prog fn (OpenSpec.ofChange s) false (w.forCall tape i).memory i.args) ∧ ({} : Assume).holds Tryz.prog (lone (Frame.enter Tryz.prog f i.args .normal) [] (w.forCall tape i)))
    (body : ∀ (W : World) (base : Nat) (args : Array Value) (ds gs : List (DataW H)) (before : List MemPlace),
      (∀ (j : Nat) t v, fn.params[j]? = some t → args[j]? = some v → Value.okWide Tryz.prog W .any base t v) →
      DataW.Whole enc Tryz.prog fn.params.toList s.vars false W args.toList ds gs before →
      laidMetH Tryz.prog lay21 W → W.ShapedOpen Tryz.prog →
      Calls Tryz.prog f args W fun e W' => ∃ v, e = .returned v ∧ s.post enc Tryz.prog fn false true false false W args v W') :
    ReturnsInHanded {} Tryz.checked os f .any (fun w args => (s.pre enc Tryz.prog fn [] false w args ∧ laidMetH Tryz.prog lay21 w) ∧ sizedMet enc Tryz.prog fn (OpenSpec.ofChange s) false w args) (s.post enc Tryz.prog fn false true false false) := by
  refine returnsInHanded_of_calls (C := Tryz.checked) Tryz.own started noInit witness ?_
  intro w tape i _ hsh _ hok hpre _
  obtain ⟨_, _, _, fn', hfn', _, _, _, _, hval⟩ := hok
  obtain rfl : fn' = fn := Option.some.inj (hfn'.symm.trans hfn)
  obtain ⟨⟨⟨ds, gs, before, hw, hc⟩, hx⟩, hz⟩ := hpre
  refine (body (w.forCall tape i) w.heap.size i.args ds gs before hval (DataW.Whole.of_heap (w' := w.forCall tape i) (by rfl) hw) (hx.of_heap (by rfl)) hsh).mono ?_
  rintro e W' ⟨v, rfl, hp⟩
  exact ChangeSpec.post_blind hp
end Go.Proofs.YtmjljoaakdocaaaGreatDoor

import Derived.Test.YtkcnbejpmknaoaaDoorV05
import Derived.Test.YtkcnbejpmknaoaaDoorV07
import Derived.Test.YtkcnbejpmknaoaaDoorV00
import Derived.ProofKit
import Derived.Deep.Slices
import Derived.OpenShut
import Derived.LaidMore
/- What strings.Cut, Split and HasPrefix do, in states (chapter 21). -/
namespace Go.Proofs.YtkcnbejpmknaoaaDoor
open Go Go.RowKit Reg Mem

theorem below_drewN (w : World) : ∀ n : Nat, Below w.heap.size w (w.drewN n) := fun n => by
  have h : (w.drewN n).heap = w.heap ∧ (w.drewN n).os = w.os ∧ (w.drewN n).tape = w.tape ∧ (w.drewN n).output = w.output ∧ w.drawn ≤ (w.drewN n).drawn := by
    refine ⟨rfl, rfl, rfl, rfl, ?_⟩
    unfold World.drewN
    simp
  obtain ⟨h1, h2, h3, h4, h5⟩ := h
  exact ⟨h2, h3, h4, by rw [h1]; exact Nat.le_refl _, fun k _ => by rw [h1], h5⟩
theorem cut_calls (tE : TypeId) (pE : Value) (l : List UInt8) (w : World) (F : Nat → Prop) (h : (LibA tE pE).at_ w F) (hn : l.length ≤ 2147483647) :
    Calls Tryd.prog 28 #[strV l, .string ⟨#[35]⟩] w fun e w' => ∃ r b, e = .returned (.tuple #[strV ((splitGo 35 [] l).headD []), r, .bool b]) ∧ Below w.heap.size w w' := by
  obtain ⟨m, hm⟩ := h.1.maxLen
  have hc := Tryd.strings_Cut (str l) ⟨#[35]⟩ m w (by rw [str_size]; omega) hm
  rw [str_data, show (⟨#[35]⟩ : ByteArray).data.toList = [35] from rfl] at hc
  refine hc.mono fun e w' ⟨he, n, hw⟩ => ⟨.string ⟨(Lib.cut l [35]).2.1.toArray⟩, (Lib.cut l [35]).2.2, by rw [he, ← cut_go]; rfl, ?_⟩
  rw [hw]; exact below_drewN w n
theorem hp_calls (l : List UInt8) (w : World) : Calls Tryd.prog 31 #[strV l, .string ⟨#[120]⟩] w fun e w' => e = .returned (.bool (decide (l.head? = some 120))) ∧ Below w.heap.size w w' := by
  have hc := Tryd.strings_HasPrefix (str l) ⟨#[120]⟩ w
  rw [str_data, show (⟨#[120]⟩ : ByteArray).data.toList = [120] from rfl] at hc
  refine hc.mono fun e w' ⟨he, hw⟩ => ⟨?_, by rw [hw]; exact Below.refl _ _⟩
  rw [he]
  congr 2
  cases l with
  | nil => rfl
  | cons b l =>
    unfold Lib.hasPrefix
    simp only [List.isPrefixOf, Bool.and_true, List.head?_cons, Option.some.injEq]
    rw [Bool.eq_iff_iff, beq_iff_eq, decide_eq_true_eq]
    exact ⟨fun h => h.symm, fun h => h.symm⟩
theorem split_calls (tE : TypeId) (pE : Value) (l : List UInt8) (w : World) (F : Nat → Prop) (h : (LibA tE pE).at_ w F) (hn : l.length ≤ 2147483647) :
    Calls Tryd.prog 13 #[strV l, .string ⟨#[10]⟩] w fun e w' => ∃ R, e = .returned (.slice (some ⟨R, 0, none⟩) (splitGo 10 [] l).length (splitGo 10 [] l).length) ∧
      St (fun _ => False) w w' [Own 9 strcell 1 (.slice (some ⟨R, 0, none⟩) (splitGo 10 [] l).length (splitGo 10 [] l).length) (splitGo 10 [] l)] := by
  obtain ⟨m, hm⟩ := h.1.maxLen
  have hc := Tryd.strings_Split (str l) ⟨#[10]⟩ m w (by rw [str_size]; omega) hm (by decide)
  have hg := splitB_go 10 (str l)
  rw [str_data] at hg
  have hl : Lib.countB (str l) ⟨#[10]⟩ + 1 = (splitGo 10 [] l).length := by
    rw [← hg, List.length_map]
    exact (Lib.splitB_all ⟨#[10]⟩ (by decide) 0 _ (str l) rfl).symm
  have hcells : ((Lib.splitB ⟨#[10]⟩ 0 (Lib.countB (str l) ⟨#[10]⟩) (str l)).map Value.string) = flatE strcell (splitGo 10 [] l) := by
    rw [← hg]
    generalize Lib.splitB ⟨#[10]⟩ 0 (Lib.countB (str l) ⟨#[10]⟩) (str l) = xs
    induction xs with
    | nil => rfl
    | cons x xs ih => rw [List.map_cons, List.map_cons, flatE_cons, ih]; simp only [strcell, List.singleton_append, strV]; rw [← str_of]
  have hlen := split_len 10 l []
  have hcnt : l.count 10 ≤ l.length := List.count_le_length
  refine hc.mono fun e w' ⟨he, hw⟩ => ⟨w.heap.size, by rw [he, hl], ?_⟩
  rw [hw, hcells]
  refine (St.init (fun _ => False) w).grow (F := fun x => x = w.heap.size) (keep_alloc w _) ⟨?_, fun x => by simp [Value.ownBlock, eq_comm]⟩ (fun _ e => Nat.le_of_eq e.symm)
  refine ⟨by rw [flatE_length strcells], .inr ⟨w.heap.size, _, _, rfl, Nat.zero_le _, heap_alloc_new w _, Nat.le_refl _, by unfold maxLen; omega, ?_, ?_⟩⟩
  · rw [List.size_toArray, flatE_length strcells]
  · have := flatE_length strcells (splitGo 10 [] l)
    rw [List.toList_toArray, ← this, List.take_length]
end Go.Proofs.YtkcnbejpmknaoaaDoor
/- Opening a law's arguments: a value that reads as data, of a type whose cells are all plain, or a slice of such; and the row's last step where all below is as it was. -/
namespace Go.Proofs.YtkcnbejpmknaoaaDoor.Mem
open Go.RowKit Go.WideShapes Go.ChangeShapes Go.Deep
section
variable {H : Type} {enc : TypeId × Value → H} {P : Program} {w : World} {base : Nat} {spare : Nat → Bool} {held : Bool}
def wfv : Value → Bool
  | .int k n => (Lit.int k n).wf
  | .string s => decide (s.size ≤ maxLen)
  | _ => true
theorem post_of_below {f : Func} {s : ChangeSpec} {apart fresh handsOn again : Bool} {W W' : World} {args : Array Value} {v : Value} {ds gs : List (DataW H)} {before pa pv : List MemPlace}
    (hW : DataW.Whole enc P f.params.toList s.vars apart W args.toList ds gs before)
    (hres : ∀ (b : Nat) (sp : Nat → Bool) (hd : Bool), DataW.TrodAll enc P W' b sp hd f.resultTypes.toList (v.resultList f.resultTypes.size) (s.fn H (ds ++ gs)).results [])
    (hargs : ∀ sp : Nat → Bool, (∀ p ∈ before, sp p.block = true) → DataW.TrodAll enc P W' 0 sp true f.params.toList args.toList (s.fn H (ds ++ gs)).args pa)
    (hvars : ∀ sp : Nat → Bool, (∀ p ∈ before, sp p.block = true) → DataW.TrodVars enc P W' sp s.vars (s.fn H (ds ++ gs)).vars pv)
    (hps : before = pa ++ pv) (hb : Below W.heap.size W W')
    (hok : ∀ (j : Nat) (t : TypeId) (r : Value), f.resultTypes[j]? = some t → (v.resultList f.resultTypes.size)[j]? = some r → Value.okWide P W' .any 0 t r) :
    s.post enc P f apart fresh handsOn again W args v W' := by
  have hlt : ∀ p ∈ before, p.block < W.heap.size := fun p hp => hW.lt p hp
  have hold : ∀ p ∈ before, (fun b => decide (b < W.heap.size)) p.block = true := fun p hp => by simpa using hlt p hp
  refine ⟨ds, gs, before, [], pa, pv, hW, hres _ _ _, hargs _ hold, hvars _ hold, World.keptBut_mono (fun p hp => ⟨hp, ?_⟩) (hb.to.frame (· ∈ before)), fun _ => ?_⟩
  · rw [hps, List.mem_append] at hp
    exact Or.inr hp
  · obtain ⟨_, _, _, _, _, hz, hn⟩ := hW
    refine ⟨hok, _, _, ([] ++ pa) ++ pv, ⟨[] ++ pa, pv, trodAll_append (hargs _ (fun _ _ => rfl)) (hres _ _ _), hvars _ (fun _ _ => rfl), rfl, ?_, ?_⟩, ?_⟩
    · intro b off hp
      have hin : MemPlace.cell b off ∈ before := by rw [hps]; simpa using hp
      rw [hb.frozen (hlt _ hin)]
      exact hz b off hin
    · intro ha
      have := hn ha
      rw [hps] at this
      simpa using this
    · intro p hp _
      rw [hps]
      simpa using hp
theorem trodAll_stays (hl : laidOutB P = true) {W W' : World} (hb : Below W.heap.size W W') {sp : Nat → Bool} : ∀ (ts : List TypeId) (vs : List Value) (ds : List (DataW H)) (ps : List MemPlace),
    ts.all (fun t => P.readableRec t && decide (t < P.types.size)) = true → DataW.TrodAll enc P W 0 (fun _ => true) true ts vs ds ps → (∀ x ∈ ps, x.block < W.heap.size) → (∀ x ∈ ps, sp x.block = true) → DataW.TrodAll enc P W' 0 sp true ts vs ds ps
  | [], [], [], _, _, h, _, _ => h
  | t :: ts, v :: vs, d :: ds, ps, hr, h, hlt, hsp => by
    obtain ⟨p, q, h1, h2, rfl⟩ := h
    simp only [List.all_cons, Bool.and_eq_true, decide_eq_true_eq] at hr
    refine ⟨p, q, ?_, trodAll_stays hl hb ts vs ds q hr.2 h2 (fun x hx => hlt x (List.mem_append_right _ hx)) (fun x hx => hsp x (List.mem_append_right _ hx)), rfl⟩
    exact WideElems.Trod_stays hl hr.1.1 hr.1.2 h1 (fun x hx => hb.to.same (hlt x (List.mem_append_left _ hx))) (fun x hx => hsp x (List.mem_append_left _ hx))
  | [], [], _ :: _, _, _, h, _, _ => h.elim
  | [], _ :: _, _, _, _, h, _, _ => h.elim
  | _ :: _, [], _, _, _, h, _, _ => h.elim
  | _ :: _, _ :: _, [], _, _, h, _, _ => h.elim
end
end Go.Proofs.YtkcnbejpmknaoaaDoor.Mem
/- A plain datum tells the cells that read as it: what a listed table holds. Over any program. -/
namespace Go.Proofs.YtkcnbejpmknaoaaDoor.Mem
open Go.RowKit Go.WideShapes Go.ChangeShapes Go.Deep
section
variable {H : Type} {enc : TypeId × Value → H} {P : Program} {w : World} {base : Nat} {spare : Nat → Bool} {held : Bool}
def cellsD : Nat → DataW H → List Value
  | _ + 1, .lit (.int k n) => [.int k n]
  | _ + 1, .lit (.string s) => [.string ⟨s.toArray⟩]
  | _ + 1, .lit (.bool b) => [.bool b]
  | d + 1, .agg xs => xs.flatMap (cellsD d)
  | _, _ => []
theorem trod_cells : ∀ (d : Nat) (t : TypeId) (ks : List TypeDesc), lay P d t = some ks → P.cellsOf t = ks.length → ∀ (fuel : Nat) (cs : List Value) (x : DataW H × List MemPlace),
    DataW.trod enc P w base spare held fuel t cs = some x → cs = cellsD d x.1
  | 0, _, _, h, _, _, _, _, _ => by cases h
  | d + 1, t, ks, h, hc, fuel, cs, x, hx => by
    unfold lay at h
    cases hu : P.underlying t with
    | none => rw [hu] at h; cases h
    | some u =>
      rw [hu] at h
      cases u <;> simp only [reduceCtorEq, Option.some.injEq] at h
      case int k =>
        obtain ⟨n, rfl, rfl, _⟩ := DataW.trod_int hu hx
        rfl
      case string =>
        obtain ⟨s, rfl, rfl, _⟩ := DataW.trod_string hu hx
        simp [cellsD]
      case bool =>
        obtain ⟨b, rfl, rfl⟩ := DataW.trod_bool hu hx
        rfl
      case struct fs =>
        split at h
        · cases h
        · obtain ⟨xs, n, _, rfl, hlen, hxl, hf⟩ := DataW.trod_struct hu hx
          have key : ∀ (l : List Field) (i off : Nat) (ks : List TypeDesc), (∀ j f, l[j]? = some f → fs[i + j]? = some f) → layFields P (lay P d) l off = some ks → off + ks.length ≤ cs.length →
              (cs.drop off).take ks.length = ((xs.drop i).take l.length).flatMap (fun y => cellsD d y.1) := by
            intro l
            induction l with
            | nil => intro i off ks _ h _; simp only [layFields, Option.some.injEq] at h; subst h; simp
            | cons f l ih =>
              intro i off ks hl h hle
              unfold layFields at h
              split at h
              · cases h
              · rename_i hno
                have hoff : f.offset = off := by have := not_or.1 hno; exact Decidable.not_not.1 this.2
                split at h
                · cases h
                · rename_i k1 hk1
                  split at h
                  · cases h
                  · rename_i hsz
                    have hsz' := Decidable.not_not.1 hsz
                    split at h
                    · cases h
                    · rename_i r hr
                      simp only [Option.some.injEq] at h
                      subst h
                      rw [List.length_append] at hle
                      have hfi : fs[i]? = some f := hl 0 f rfl
                      have h1 := hf i f hfi
                      have hix : i < xs.length := by rw [hxl]; exact (Array.getElem?_eq_some_iff.1 hfi).1
                      obtain ⟨y, hy⟩ : ∃ y, xs[i]? = some y := ⟨_, List.getElem?_eq_getElem hix⟩
                      rw [hy, hoff, hsz'] at h1
                      have a1 := trod_cells d f.type k1 hk1 hsz' n _ y h1
                      have a2 := ih (i + 1) (off + k1.length) r (fun j g hg => by have := hl (j + 1) g (by simpa using hg); rwa [show i + 1 + j = i + (j + 1) by omega]) hr (by omega)
                      have e : (cs.drop off).take (k1 ++ r).length = (cs.drop off).take k1.length ++ (cs.drop (off + k1.length)).take r.length := by
                        rw [List.length_append, List.take_add, List.drop_drop]
                      have e2 : xs.drop i = y :: xs.drop (i + 1) := by
                        rw [List.drop_eq_getElem_cons hix]; congr 1; rw [List.getElem?_eq_getElem hix] at hy; exact Option.some.inj hy
                      rw [e, a1, a2, e2]
                      simp
          have := key fs.toList 0 0 ks (fun j f hj => by simpa using hj) h (by omega)
          rw [List.drop_zero, List.take_of_length_le (by omega), List.drop_zero, List.take_of_length_le (by simp; omega)] at this
          rw [this]
          simp [cellsD, List.flatMap_map]
      case array m e =>
        cases hd : lay P d e with
        | none => rw [hd] at h; cases h
        | some k1 =>
          rw [hd] at h
          simp only at h
          split at h
          · cases h
          · rename_i hsz
            have hsz' := Decidable.not_not.1 hsz
            simp only [Option.some.injEq] at h
            obtain ⟨xs, n, _, rfl, hlen, hxl, hf⟩ := DataW.trod_array hu hx
            have key : ∀ (q i : Nat), i + q ≤ m → (cs.drop (i * k1.length)).take (q * k1.length) = ((xs.drop i).take q).flatMap (fun y => cellsD d y.1) := by
              intro q
              induction q with
              | zero => intro i _; simp
              | succ q ih =>
                intro i hi
                have h1 := hf i (by omega)
                have hix : i < xs.length := by omega
                obtain ⟨y, hy⟩ : ∃ y, xs[i]? = some y := ⟨_, List.getElem?_eq_getElem hix⟩
                rw [hy, hsz'] at h1
                have a1 := trod_cells d e k1 hd hsz' n _ y h1
                have a2 := ih (i + 1) (by omega)
                have e : (cs.drop (i * k1.length)).take ((q + 1) * k1.length) = (cs.drop (i * k1.length)).take k1.length ++ (cs.drop ((i + 1) * k1.length)).take (q * k1.length) := by
                  rw [show (q + 1) * k1.length = k1.length + q * k1.length by rw [Nat.add_mul]; omega, List.take_add, List.drop_drop, show (i + 1) * k1.length = i * k1.length + k1.length by rw [Nat.add_mul]; omega]
                have e2 : xs.drop i = y :: xs.drop (i + 1) := by
                  rw [List.drop_eq_getElem_cons hix]; congr 1; rw [List.getElem?_eq_getElem hix] at hy; exact Option.some.inj hy
                rw [e, a1, a2, e2]
                simp
            have := key m 0 (by omega)
            subst h
            have hl2 : ((List.replicate m k1).flatten).length = m * k1.length := by simp
            rw [hl2] at hc
            rw [Nat.zero_mul, List.drop_zero, List.take_of_length_le (by omega), List.drop_zero, List.take_of_length_le (by omega)] at this
            rw [this]
            simp [cellsD, List.flatMap_map]
end
end Go.Proofs.YtkcnbejpmknaoaaDoor.Mem

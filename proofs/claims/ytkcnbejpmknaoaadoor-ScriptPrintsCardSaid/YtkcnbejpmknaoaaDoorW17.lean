import Derived.Test.YtkcnbejpmknaoaaDoorW16
import Derived.Test.YtkcnbejpmknaoaaDoorW14
import Derived.Test.YtkcnbejpmknaoaaDoorW00
import Derived.ProofKit
import Derived.Deep.Slices
import Derived.OpenShut
import Derived.LaidMore
import Derived.Test.YtkcnbejpmknaoaaDoorTie
import Derived.Test.YtkcnbejpmknaoaaDoorCards
import Derived.Test.YtkcnbejpmknaoaaDoorW10
import Derived.MakeChecks
import Derived.Stop.Joined
import Derived.SevenTiedAt
import Derived.Lib.LaidU8
import Derived.Lib.LaidTab
import Derived.Shelf.Vars
/- The walk of the law ScriptPrints. -/
namespace Go.Proofs.YtkcnbejpmknaoaaDoor
open Go Go.RowKit Reg Mem

set_option maxRecDepth 100000 in
set_option maxHeartbeats 16000000 in
theorem prints_calls (tE : TypeId) (pE : Value) (lv : Value) (l : List DoE) (w : World) (F F2 F3 : Nat → Prop) (h : (LibA tE pE).at_ w F) (h2 : FormsT.at_ w F2) (h3 : (Sl true docell 3 lv l).at_ w F3) :
    Calls Tryd.prog 5 #[lv] w fun e w' => e = .returned (.bool true) ∧ Below w.heap.size w w' := by
  have S : St (fun _ => False) w w [Sl true docell 3 lv l, LibA tE pE, FormsT] := (((St.init _ w).share (A := FormsT) rfl rfl h2).share (A := LibA tE pE) rfl rfl h).share (A := Sl true docell 3 lv l) rfl rfl h3
  clear h h2 h3
  obtain ⟨ad, cp, rfl, _⟩ := (S.sl 0 rfl).elim fun _ h => h.form
  by_cases hbig : 200 < l.length
  · have c1 : (200 : Int) < l.length := by omega
    clear hbig
    go_enter Tryd.func5, Tryd.ntmps5
    go_wp2_with first | go_skip | ((with_reducible refine wpList_skip ?hw ?_); (case hw => with_unfolding_all rfl); simp only [Act.put, List.setIfInBounds_toArray, List.set_cons_succ, List.set_cons_zero]) | (go_at_call 6; refine Calls.mono (awake21_calls tE pE _ _ _ (S.get (i := 1) rfl).choose_spec (S.get (i := 2) rfl).choose_spec) ?_; rintro e wz ⟨rfl, hE⟩; replace S := S.ext (Keep.of_below hE); clear hE) | ((with_reducible refine tot_done ?ht ?_); (case ht => kernel_rfl))
    go_ret
    exact ⟨rfl, S.below⟩
  · have c1 : ¬ (200 : Int) < l.length := by omega
    have hl : l.length ≤ 65536 := by omega
    have H1 := Lib.hid (fun lv w F F2 F3 h h2 h3 => sprint_calls tE pE lv l w F F2 F3 h h2 h3 hl)
    have H2 := Lib.hid (fun lv w F h => rprint_calls lv l w F h hl)
    have H3 := Lib.hid (fun lv w F h => dplain_calls lv l w F h hl)
    generalize printE l = q at *
    obtain ⟨tx, er⟩ := q
    simp only at H1 H2
    have k2 : (er == er) = true := beq_self_eq_true _
    clear hbig
    go_enter Tryd.func5, Tryd.ntmps5
    go_wp2_with first | go_skip | ((with_reducible refine wpList_skip ?hw ?_); (case hw => with_unfolding_all rfl); simp only [Act.put, List.setIfInBounds_toArray, List.set_cons_succ, List.set_cons_zero]) | (go_at_call 11; refine Calls.mono (H1.out _ _ _ _ _ (S.get (i := 1) rfl).choose_spec (S.get (i := 2) rfl).choose_spec (S.get (i := 0) rfl).choose_spec) ?_; rintro e wz ⟨rfl, hE⟩; replace S := S.ext (Keep.of_below hE); clear hE) | (go_at_call 10; refine Calls.mono (H3.out _ _ _ (S.get (i := 0) rfl).choose_spec) ?_; rintro e wz ⟨ap, cq, rfl, T⟩; replace S := (S.join T rfl).freeze true 0 docells rfl; clear T; simp only [List.cons_append, List.nil_append, List.set_cons_zero] at S) | (go_at_call 12; refine Calls.mono (H2.out _ _ _ (S.get (i := 0) rfl).choose_spec) ?_; rintro e wz ⟨rfl, hE⟩; replace S := S.ext (Keep.of_below hE); clear hE) | ((with_reducible apply wps_seql (T := 9)); (case hx | hy => rfl); (case hb => exact decide_eq_true rfl)) | (go_at_call 6; refine Calls.mono (awake21_calls tE pE _ _ _ (S.get (i := 2) rfl).choose_spec (S.get (i := 3) rfl).choose_spec) ?_; rintro e wz ⟨rfl, hE⟩; replace S := S.ext (Keep.of_below hE); clear hE) | ((with_reducible refine tot_done ?ht ?_); (case ht => kernel_rfl))
    go_ret
    exact ⟨rfl, S.below⟩
end Go.Proofs.YtkcnbejpmknaoaaDoor
/- Opening a law's arguments: a value that reads as data, of a type whose cells are all plain, or a slice of such; and the row's last step where all below is as it was. -/
namespace Go.Proofs.YtkcnbejpmknaoaaDoor.Mem
open Go.RowKit Go.WideShapes Go.ChangeShapes Go.Deep
section
variable {H : Type} {enc : TypeId × Value → H} {P : Program} {w : World} {base : Nat} {spare : Nat → Bool} {held : Bool}
def wfv : Value → Bool
  | .int k n => (Lit.int k n).wf
  | .string s => decide (s.size ≤ maxLen)
  | _ => true
theorem fits_join : ∀ {ks ls : List TypeDesc} {vs us : List Value}, fits ks vs = true → fits ls us = true → fits (ks ++ ls) (vs ++ us) = true
  | [], _, [], _, _, h => h
  | k :: ks, ls, v :: vs, us, h, h2 => by
    simp only [fits, Bool.and_eq_true, List.cons_append] at h ⊢
    exact ⟨h.1, fits_join h.2 h2⟩
  | [], _, _ :: _, _, h, _ => by simp [fits] at h
  | _ :: _, _, [], _, h, _ => by simp [fits] at h
theorem trod_flat : ∀ (d : Nat) (t : TypeId) (ks : List TypeDesc), lay P d t = some ks → P.cellsOf t = ks.length → ∀ (fuel : Nat) (cs : List Value) (x : DataW H × List MemPlace),
    DataW.trod enc P w base spare held fuel t cs = some x → fits ks cs = true ∧ ∀ v ∈ cs, wfv v = true
  | 0, _, _, h, _, _, _, _, _ => by cases h
  | d + 1, t, ks, h, hc, fuel, cs, x, hx => by
    unfold lay at h
    cases hu : P.underlying t with
    | none => rw [hu] at h; cases h
    | some u =>
      rw [hu] at h
      cases u <;> simp only [reduceCtorEq, Option.some.injEq] at h
      case int k =>
        subst h
        obtain ⟨n, rfl, _, hw⟩ := DataW.trod_int hu hx
        exact ⟨by simp [fits, fit], fun v hv => by obtain rfl : v = _ := by simpa using hv
                                                   simpa [wfv] using hw⟩
      case string =>
        subst h
        obtain ⟨s, rfl, _, hs⟩ := DataW.trod_string hu hx
        exact ⟨by simp [fits, fit], fun v hv => by obtain rfl : v = _ := by simpa using hv
                                                   simpa [wfv] using hs⟩
      case bool =>
        subst h
        obtain ⟨b, rfl, _⟩ := DataW.trod_bool hu hx
        exact ⟨by simp [fits, fit], fun v hv => by obtain rfl : v = _ := by simpa using hv
                                                   rfl⟩
      case struct fs =>
        split at h
        · cases h
        · obtain ⟨xs, n, rfl, _, hlen, hxl, hf⟩ := DataW.trod_struct hu hx
          have key : ∀ (l : List Field) (i off : Nat) (ks : List TypeDesc), (∀ j f, l[j]? = some f → fs[i + j]? = some f) → layFields P (lay P d) l off = some ks → off + ks.length ≤ cs.length →
              fits ks ((cs.drop off).take ks.length) = true ∧ ∀ v ∈ (cs.drop off).take ks.length, wfv v = true := by
            intro l
            induction l with
            | nil => intro i off ks _ h _; simp only [layFields, Option.some.injEq] at h; subst h; simp [fits]
            | cons f l ih =>
              intro i off ks hl h hle
              unfold layFields at h
              split at h
              · cases h
              · rename_i hno
                have hoff : f.offset = off := by have := not_or.1 hno; exact Decidable.not_not.1 this.2
                split at h
                · cases h
                · rename_i k1 hk1
                  split at h
                  · cases h
                  · rename_i hsz
                    have hsz' := Decidable.not_not.1 hsz
                    split at h
                    · cases h
                    · rename_i r hr
                      simp only [Option.some.injEq] at h
                      subst h
                      rw [List.length_append] at hle
                      have hfi : fs[i]? = some f := hl 0 f rfl
                      have h1 := hf i f hfi
                      obtain ⟨y, hy⟩ : ∃ y, xs[i]? = some y := ⟨_, List.getElem?_eq_getElem (by rw [hxl]; exact (Array.getElem?_eq_some_iff.1 hfi).1)⟩
                      rw [hy, hoff, hsz'] at h1
                      have a1 := trod_flat d f.type k1 hk1 hsz' n _ y h1
                      have a2 := ih (i + 1) (off + k1.length) r (fun j g hg => by have := hl (j + 1) g (by simpa using hg); rwa [show i + 1 + j = i + (j + 1) by omega]) hr (by omega)
                      have e : (cs.drop off).take (k1 ++ r).length = (cs.drop off).take k1.length ++ (cs.drop (off + k1.length)).take r.length := by
                        rw [List.length_append, List.take_add, List.drop_drop]
                      rw [e]
                      exact ⟨fits_join a1.1 a2.1, fun v hv => (List.mem_append.1 hv).elim (a1.2 v) (a2.2 v)⟩
          have := key fs.toList 0 0 ks (fun j f hj => by simpa using hj) h (by omega)
          rw [List.drop_zero, List.take_of_length_le (by omega)] at this
          exact this
      case array m e =>
        cases hd : lay P d e with
        | none => rw [hd] at h; cases h
        | some k1 =>
          rw [hd] at h
          simp only at h
          split at h
          · cases h
          · rename_i hsz
            have hsz' := Decidable.not_not.1 hsz
            simp only [Option.some.injEq] at h
            obtain ⟨xs, n, rfl, _, hlen, hxl, hf⟩ := DataW.trod_array hu hx
            have key : ∀ (q i : Nat), i + q ≤ m → fits (List.replicate q k1).flatten ((cs.drop (i * k1.length)).take (q * k1.length)) = true ∧ ∀ v ∈ (cs.drop (i * k1.length)).take (q * k1.length), wfv v = true := by
              intro q
              induction q with
              | zero => intro i _; simp [fits]
              | succ q ih =>
                intro i hi
                have h1 := hf i (by omega)
                obtain ⟨y, hy⟩ : ∃ y, xs[i]? = some y := ⟨_, List.getElem?_eq_getElem (by omega)⟩
                rw [hy, hsz'] at h1
                have a1 := trod_flat d e k1 hd hsz' n _ y h1
                have a2 := ih (i + 1) (by omega)
                have e : (cs.drop (i * k1.length)).take ((q + 1) * k1.length) = (cs.drop (i * k1.length)).take k1.length ++ (cs.drop ((i + 1) * k1.length)).take (q * k1.length) := by
                  rw [show (q + 1) * k1.length = k1.length + q * k1.length by rw [Nat.add_mul]; omega, List.take_add, List.drop_drop, show (i + 1) * k1.length = i * k1.length + k1.length by rw [Nat.add_mul]; omega]
                rw [e, List.replicate_succ, List.flatten_cons]
                exact ⟨fits_join a1.1 a2.1, fun v hv => (List.mem_append.1 hv).elim (a1.2 v) (a2.2 v)⟩
            have := key m 0 (by omega)
            subst h
            have hl2 : ((List.replicate m k1).flatten).length = m * k1.length := by simp
            rw [hl2] at hc
            rw [Nat.zero_mul, List.drop_zero, List.take_of_length_le (by omega)] at this
            exact this

theorem open_slice_flat {t e : TypeId} {ks : List TypeDesc} {α : Type} (en : α → List Value) (ok : α → Prop) (ht : P.underlying t = some (.slice e)) (hl : lay P 100 e = some ks) (hk : P.cellsOf e = ks.length) (h0 : 0 < ks.length)
    (dec : ∀ vs, fits ks vs = true → (∀ v ∈ vs, wfv v = true) → ∃ x : α, en x = vs ∧ ok x) {fuel : Nat} {cs : List Value} {x : DataW H × List MemPlace} (h : DataW.trod enc P w base spare held fuel t cs = some x) :
    ∃ (a : Option Addr) (c : Nat) (xs : List α), cs = [.slice a xs.length c] ∧ xs.length ≤ c ∧ c ≤ maxLen ∧ (a = none → xs = [] ∧ c = 0) ∧ (∀ y ∈ xs, ok y) ∧
      ∀ (i : Nat) y, xs[i]? = some y → ∃ R o, a = some ⟨R, o, none⟩ ∧ ∀ j u, (en y)[j]? = some u → w.cell? ⟨R, o + i * ks.length + j, none⟩ = some u := by
  rcases open_slice ht h with ⟨rfl, _⟩ | ⟨a, len, cap, m, n, D, Pl, rfl, _, hlc, hcm, hm, _, hx⟩
  · exact ⟨none, 0, [], rfl, Nat.le_refl _, by simp [maxLen], fun _ => ⟨rfl, rfl⟩, fun _ h => (by cases h), fun i y h => (by simp at h)⟩
  · have hlm : len ≤ m := by rw [hm]; split <;> omega
    have each : ∀ i, i < len → ∃ y : α, ok y ∧ ∃ R o, a = ⟨R, o, none⟩ ∧ ∀ j u, (en y)[j]? = some u → w.cell? ⟨R, o + i * ks.length + j, none⟩ = some u := by
      intro i hi
      obtain ⟨vs, h1, h2⟩ := hx i (by omega)
      obtain ⟨hf, hw⟩ := trod_flat 100 e ks hl hk n vs _ h2
      obtain ⟨y, hy, hok⟩ := dec vs hf hw
      obtain ⟨_, hlen, hcell⟩ := World.cells?_some h1
      rw [hk] at hlen hcell
      refine ⟨y, hok, a.block, a.off, ?_, fun j u hj => ?_⟩
      · have h3 := hcell 0 h0
        rw [List.getElem?_eq_getElem (by omega)] at h3
        obtain ⟨R, o, sp⟩ := a
        cases sp with
        | none => rfl
        | some s =>
          exfalso
          have h4 : (((⟨R, o, some s⟩ : Addr).add (i * ks.length)).add 0) = (⟨R, o, some s⟩ : Addr).add (i * ks.length) := by simp [Addr.add]
          rw [h4] at h3
          have : ∃ q, w.cell? ((⟨R, o, some s⟩ : Addr).add 0) = some q := by
            obtain ⟨vs0, g1, _⟩ := hx 0 (by omega)
            obtain ⟨_, gl, gc⟩ := World.cells?_some g1
            rw [hk] at gl gc
            have g3 := gc 0 h0
            rw [List.getElem?_eq_getElem (by omega)] at g3
            exact ⟨_, by simpa [Addr.add] using g3⟩
          obtain ⟨q, hq⟩ := this
          simp only [Addr.add, if_true, World.cell?] at hq
          split at hq <;> simp at hq
      · have hjl : j < ks.length := by have := (List.getElem?_eq_some_iff.1 hj).1; rw [hy] at this; omega
        have h3 := hcell j hjl
        rw [hy] at hj
        rw [hj] at h3
        have hsp : a.spot = none := by
          obtain ⟨vs0, g1, _⟩ := hx 0 (by omega)
          obtain ⟨_, gl, gc⟩ := World.cells?_some g1
          rw [hk] at gl gc
          have g3 := gc 0 h0
          rw [List.getElem?_eq_getElem (by omega)] at g3
          simp only [Nat.zero_mul, Addr.add, if_true, World.cell?] at g3
          cases hs : a.spot with
          | none => rfl
          | some s => rw [hs] at g3; split at g3 <;> simp at g3
        rw [← h3]
        congr 1
        obtain ⟨R, o, sp⟩ := a
        simp only at hsp
        subst hsp
        unfold Addr.add
        split <;> split <;> simp_all
    have choose : ∀ n, n ≤ len → ∃ xs : List α, xs.length = n ∧ ∀ i y, xs[i]? = some y → ok y ∧ ∃ R o, a = ⟨R, o, none⟩ ∧ ∀ j u, (en y)[j]? = some u → w.cell? ⟨R, o + i * ks.length + j, none⟩ = some u := by
      intro n
      induction n with
      | zero => intro _; exact ⟨[], rfl, fun i y h => by simp at h⟩
      | succ n ih =>
        intro hn
        obtain ⟨xs, hl, hxs⟩ := ih (by omega)
        obtain ⟨y, hy⟩ := each n (by omega)
        refine ⟨xs ++ [y], by simp [hl], fun i z hz => ?_⟩
        by_cases hi : i < n
        · rw [List.getElem?_append_left (by omega)] at hz
          exact hxs i z hz
        · have hi2 : i = n := by have := (List.getElem?_eq_some_iff.1 hz).1; simp at this; omega
          subst hi2
          rw [List.getElem?_append_right (by omega)] at hz
          simp [hl] at hz
          subst hz
          exact hy
    obtain ⟨xs, rfl, hxs⟩ := choose len (Nat.le_refl _)
    refine ⟨some a, cap, xs, rfl, hlc, hcm, fun h => (by cases h), fun y hy => ?_, fun i y hi => ?_⟩
    · obtain ⟨i, hi, rfl⟩ := List.mem_iff_getElem.1 hy
      exact (hxs i _ (List.getElem?_eq_getElem hi)).1
    · obtain ⟨_, R, o, e, hc⟩ := hxs i y hi
      exact ⟨R, o, by rw [e], hc⟩

theorem post_of_below {f : Func} {s : ChangeSpec} {apart fresh handsOn again : Bool} {W W' : World} {args : Array Value} {v : Value} {ds gs : List (DataW H)} {before pa pv : List MemPlace}
    (hW : DataW.Whole enc P f.params.toList s.vars apart W args.toList ds gs before)
    (hres : ∀ (b : Nat) (sp : Nat → Bool) (hd : Bool), DataW.TrodAll enc P W' b sp hd f.resultTypes.toList (v.resultList f.resultTypes.size) (s.fn H (ds ++ gs)).results [])
    (hargs : ∀ sp : Nat → Bool, (∀ p ∈ before, sp p.block = true) → DataW.TrodAll enc P W' 0 sp true f.params.toList args.toList (s.fn H (ds ++ gs)).args pa)
    (hvars : ∀ sp : Nat → Bool, (∀ p ∈ before, sp p.block = true) → DataW.TrodVars enc P W' sp s.vars (s.fn H (ds ++ gs)).vars pv)
    (hps : before = pa ++ pv) (hb : Below W.heap.size W W')
    (hok : ∀ (j : Nat) (t : TypeId) (r : Value), f.resultTypes[j]? = some t → (v.resultList f.resultTypes.size)[j]? = some r → Value.okWide P W' .any 0 t r) :
    s.post enc P f apart fresh handsOn again W args v W' := by
  have hlt : ∀ p ∈ before, p.block < W.heap.size := fun p hp => hW.lt p hp
  have hold : ∀ p ∈ before, (fun b => decide (b < W.heap.size)) p.block = true := fun p hp => by simpa using hlt p hp
  refine ⟨ds, gs, before, [], pa, pv, hW, hres _ _ _, hargs _ hold, hvars _ hold, World.keptBut_mono (fun p hp => ⟨hp, ?_⟩) (hb.to.frame (· ∈ before)), fun _ => ?_⟩
  · rw [hps, List.mem_append] at hp
    exact Or.inr hp
  · obtain ⟨_, _, _, _, _, hz, hn⟩ := hW
    refine ⟨hok, _, _, ([] ++ pa) ++ pv, ⟨[] ++ pa, pv, trodAll_append (hargs _ (fun _ _ => rfl)) (hres _ _ _), hvars _ (fun _ _ => rfl), rfl, ?_, ?_⟩, ?_⟩
    · intro b off hp
      have hin : MemPlace.cell b off ∈ before := by rw [hps]; simpa using hp
      rw [hb.frozen (hlt _ hin)]
      exact hz b off hin
    · intro ha
      have := hn ha
      rw [hps] at this
      simpa using this
    · intro p hp _
      rw [hps]
      simpa using hp
theorem trodAll_stays (hl : laidOutB P = true) {W W' : World} (hb : Below W.heap.size W W') {sp : Nat → Bool} : ∀ (ts : List TypeId) (vs : List Value) (ds : List (DataW H)) (ps : List MemPlace),
    ts.all (fun t => P.readableRec t && decide (t < P.types.size)) = true → DataW.TrodAll enc P W 0 (fun _ => true) true ts vs ds ps → (∀ x ∈ ps, x.block < W.heap.size) → (∀ x ∈ ps, sp x.block = true) → DataW.TrodAll enc P W' 0 sp true ts vs ds ps
  | [], [], [], _, _, h, _, _ => h
  | t :: ts, v :: vs, d :: ds, ps, hr, h, hlt, hsp => by
    obtain ⟨p, q, h1, h2, rfl⟩ := h
    simp only [List.all_cons, Bool.and_eq_true, decide_eq_true_eq] at hr
    refine ⟨p, q, ?_, trodAll_stays hl hb ts vs ds q hr.2 h2 (fun x hx => hlt x (List.mem_append_right _ hx)) (fun x hx => hsp x (List.mem_append_right _ hx)), rfl⟩
    exact WideElems.Trod_stays hl hr.1.1 hr.1.2 h1 (fun x hx => hb.to.same (hlt x (List.mem_append_left _ hx))) (fun x hx => hsp x (List.mem_append_left _ hx))
  | [], [], _ :: _, _, _, h, _, _ => h.elim
  | [], _ :: _, _, _, _, h, _, _ => h.elim
  | _ :: _, [], _, _, _, h, _, _ => h.elim
  | _ :: _, _ :: _, [], _, _, h, _, _ => h.elim
end
end Go.Proofs.YtkcnbejpmknaoaaDoor.Mem
/- A plain datum tells the cells that read as it: what a listed table holds. Over any program. -/
namespace Go.Proofs.YtkcnbejpmknaoaaDoor.Mem
open Go.RowKit Go.WideShapes Go.ChangeShapes Go.Deep
section
variable {H : Type} {enc : TypeId × Value → H} {P : Program} {w : World} {base : Nat} {spare : Nat → Bool} {held : Bool}
def cellsD : Nat → DataW H → List Value
  | _ + 1, .lit (.int k n) => [.int k n]
  | _ + 1, .lit (.string s) => [.string ⟨s.toArray⟩]
  | _ + 1, .lit (.bool b) => [.bool b]
  | d + 1, .agg xs => xs.flatMap (cellsD d)
  | _, _ => []
theorem trod_cells : ∀ (d : Nat) (t : TypeId) (ks : List TypeDesc), lay P d t = some ks → P.cellsOf t = ks.length → ∀ (fuel : Nat) (cs : List Value) (x : DataW H × List MemPlace),
    DataW.trod enc P w base spare held fuel t cs = some x → cs = cellsD d x.1
  | 0, _, _, h, _, _, _, _, _ => by cases h
  | d + 1, t, ks, h, hc, fuel, cs, x, hx => by
    unfold lay at h
    cases hu : P.underlying t with
    | none => rw [hu] at h; cases h
    | some u =>
      rw [hu] at h
      cases u <;> simp only [reduceCtorEq, Option.some.injEq] at h
      case int k =>
        obtain ⟨n, rfl, rfl, _⟩ := DataW.trod_int hu hx
        rfl
      case string =>
        obtain ⟨s, rfl, rfl, _⟩ := DataW.trod_string hu hx
        simp [cellsD]
      case bool =>
        obtain ⟨b, rfl, rfl⟩ := DataW.trod_bool hu hx
        rfl
      case struct fs =>
        split at h
        · cases h
        · obtain ⟨xs, n, _, rfl, hlen, hxl, hf⟩ := DataW.trod_struct hu hx
          have key : ∀ (l : List Field) (i off : Nat) (ks : List TypeDesc), (∀ j f, l[j]? = some f → fs[i + j]? = some f) → layFields P (lay P d) l off = some ks → off + ks.length ≤ cs.length →
              (cs.drop off).take ks.length = ((xs.drop i).take l.length).flatMap (fun y => cellsD d y.1) := by
            intro l
            induction l with
            | nil => intro i off ks _ h _; simp only [layFields, Option.some.injEq] at h; subst h; simp
            | cons f l ih =>
              intro i off ks hl h hle
              unfold layFields at h
              split at h
              · cases h
              · rename_i hno
                have hoff : f.offset = off := by have := not_or.1 hno; exact Decidable.not_not.1 this.2
                split at h
                · cases h
                · rename_i k1 hk1
                  split at h
                  · cases h
                  · rename_i hsz
                    have hsz' := Decidable.not_not.1 hsz
                    split at h
                    · cases h
                    · rename_i r hr
                      simp only [Option.some.injEq] at h
                      subst h
                      rw [List.length_append] at hle
                      have hfi : fs[i]? = some f := hl 0 f rfl
                      have h1 := hf i f hfi
                      have hix : i < xs.length := by rw [hxl]; exact (Array.getElem?_eq_some_iff.1 hfi).1
                      obtain ⟨y, hy⟩ : ∃ y, xs[i]? = some y := ⟨_, List.getElem?_eq_getElem hix⟩
                      rw [hy, hoff, hsz'] at h1
                      have a1 := trod_cells d f.type k1 hk1 hsz' n _ y h1
                      have a2 := ih (i + 1) (off + k1.length) r (fun j g hg => by have := hl (j + 1) g (by simpa using hg); rwa [show i + 1 + j = i + (j + 1) by omega]) hr (by omega)
                      have e : (cs.drop off).take (k1 ++ r).length = (cs.drop off).take k1.length ++ (cs.drop (off + k1.length)).take r.length := by
                        rw [List.length_append, List.take_add, List.drop_drop]
                      have e2 : xs.drop i = y :: xs.drop (i + 1) := by
                        rw [List.drop_eq_getElem_cons hix]; congr 1; rw [List.getElem?_eq_getElem hix] at hy; exact Option.some.inj hy
                      rw [e, a1, a2, e2]
                      simp
          have := key fs.toList 0 0 ks (fun j f hj => by simpa using hj) h (by omega)
          rw [List.drop_zero, List.take_of_length_le (by omega), List.drop_zero, List.take_of_length_le (by simp; omega)] at this
          rw [this]
          simp [cellsD, List.flatMap_map]
      case array m e =>
        cases hd : lay P d e with
        | none => rw [hd] at h; cases h
        | some k1 =>
          rw [hd] at h
          simp only at h
          split at h
          · cases h
          · rename_i hsz
            have hsz' := Decidable.not_not.1 hsz
            simp only [Option.some.injEq] at h
            obtain ⟨xs, n, _, rfl, hlen, hxl, hf⟩ := DataW.trod_array hu hx
            have key : ∀ (q i : Nat), i + q ≤ m → (cs.drop (i * k1.length)).take (q * k1.length) = ((xs.drop i).take q).flatMap (fun y => cellsD d y.1) := by
              intro q
              induction q with
              | zero => intro i _; simp
              | succ q ih =>
                intro i hi
                have h1 := hf i (by omega)
                have hix : i < xs.length := by omega
                obtain ⟨y, hy⟩ : ∃ y, xs[i]? = some y := ⟨_, List.getElem?_eq_getElem hix⟩
                rw [hy, hsz'] at h1
                have a1 := trod_cells d e k1 hd hsz' n _ y h1
                have a2 := ih (i + 1) (by omega)
                have e : (cs.drop (i * k1.length)).take ((q + 1) * k1.length) = (cs.drop (i * k1.length)).take k1.length ++ (cs.drop ((i + 1) * k1.length)).take (q * k1.length) := by
                  rw [show (q + 1) * k1.length = k1.length + q * k1.length by rw [Nat.add_mul]; omega, List.take_add, List.drop_drop, show (i + 1) * k1.length = i * k1.length + k1.length by rw [Nat.add_mul]; omega]
                have e2 : xs.drop i = y :: xs.drop (i + 1) := by
                  rw [List.drop_eq_getElem_cons hix]; congr 1; rw [List.getElem?_eq_getElem hix] at hy; exact Option.some.inj hy
                rw [e, a1, a2, e2]
                simp
            have := key m 0 (by omega)
            subst h
            have hl2 : ((List.replicate m k1).flatten).length = m * k1.length := by simp
            rw [hl2] at hc
            rw [Nat.zero_mul, List.drop_zero, List.take_of_length_le (by omega), List.drop_zero, List.take_of_length_le (by omega)] at this
            rw [this]
            simp [cellsD, List.flatMap_map]
end
end Go.Proofs.YtkcnbejpmknaoaaDoor.Mem
/- The listed variables, as the rows' condition has them; and a world that meets it. -/
namespace Go.Proofs.YtkcnbejpmknaoaaDoor
open Go Go.ChangeShapes Go.WideShapes Go.ChangeAt Go.RowKit Mem

theorem Tryd.own : ownKnob Tryd.prog.godebug = none := by kernel_rfl
theorem Tryd.laidOut : laidOutB Tryd.prog = true := by kernel_rfl
def lay21 : List (String × DataW Unit) := Rows.scriptReadsRow.laid
noncomputable def wit21 (os : Os) : World :=
  { World.doorLaid Tryd.prog 81 os with heap := (World.doorLaid Tryd.prog 81 os).heap.modify 3 fun o => match o with
    | .cells _ t frozen => .cells (Lib.firstTab.map fun z => Value.int .u8 z).toArray t frozen
    | o => o }
set_option maxRecDepth 100000 in
theorem met21 (os : Os) (args : Array Value) : laidMetH Tryd.prog lay21 ((wit21 os).forCall (fun _ _ => 0) ⟨#[], args, []⟩).memory :=
  laidMetH_of_parts3 (fuel := 8) (laidMet_of_run' 8 (by kernel_rfl) (by kernel_rfl)) (by kernel_rfl) (by kernel_rfl)
set_option maxRecDepth 100000 in
theorem shape21 (os : Os) (args : Array Value) : ((wit21 os).forCall (fun _ _ => 0) ⟨#[], args, []⟩).Shaped Tryd.prog := World.shaped_of_RefB (by kernel_rfl) (by kernel_rfl)
theorem lay_some {P : Program} {t : TypeId} (h : (lay P 100 t).isSome = true) (h2 : P.cellsOf t = ((lay P 100 t).getD []).length) : ∃ ks, lay P 100 t = some ks ∧ P.cellsOf t = ks.length := by
  obtain ⟨ks, hk⟩ := Option.isSome_iff_exists.1 h
  exact ⟨ks, hk, by rw [h2, hk]; rfl⟩
theorem laid21 {W : World} (h : laidMetH Tryd.prog lay21 W) : laidMet Tryd.prog lay21 W := by
  rw [MakeChecks.laidMetH_plain _ _ _ (by kernel_rfl)] at h; exact h
theorem gForms : Tryd.prog.globalNamed "boomerang/script.forms" = some 0 := by kernel_rfl
theorem tForms : (Tryd.prog.globals[0]?).map (·.type) = some 70 := by kernel_rfl
theorem tPow : (Tryd.prog.globals[2]?).map (·.type) = some 99 := by kernel_rfl
theorem gBits : Tryd.prog.globalNamed "math/bits.deBruijn64tab" = some 8 := by kernel_rfl
theorem gRange : Tryd.prog.globalNamed "strconv.ErrRange" = some 6 := by kernel_rfl
theorem tRange : (Tryd.prog.globals[6]?).map (·.type) = some 55 := by kernel_rfl
set_option maxRecDepth 100000 in
theorem forms_of_laid {W : World} (h : laidMetH Tryd.prog lay21 W) : FormsT.at_ W (fun b => b = 0) := by
  obtain ⟨g0, t0, cs0, f0, p0, hg0, ht0, hv0, hd0⟩ := Lib.laidMet.reads (laid21 h) (n := "boomerang/script.forms") (d := Rows.laid_boomerang_script_forms) (by unfold lay21 Rows.scriptReadsRow; simp)
  obtain rfl := Option.some.inj (gForms.symm.trans hg0)
  obtain rfl := Option.some.inj (tForms.symm.trans ht0)
  obtain ⟨ks, hk, hc⟩ := lay_some (P := Tryd.prog) (t := 70) (by kernel_rfl) (by kernel_rfl)
  have e := trod_cells 100 70 ks hk hc _ _ _ hd0
  have e2 : cellsD 100 (Rows.laid_boomerang_script_forms : DataW Unit) = flatE fmcell formsL := by kernel_rfl
  have e3 : cs0.toList = flatE fmcell formsL := e.trans e2
  have hcell : ∀ i, W.cell? ⟨0, i, none⟩ = (flatE fmcell formsL)[i]? := fun i => by
    rw [World.var?_cell gForms hv0 i, ← e3, Array.getElem?_toList]
  have acells : ∀ x : List UInt8 × Nat, (fmcell x).length = 2 := fun _ => rfl
  refine ⟨⟨some ⟨0, 0, none⟩, 4, rfl, by rw [forms_len]; exact Nat.le_refl _, (fun h => by cases h), fun i x hi => ⟨0, 0, rfl, rfl, fun j u hj => ?_⟩⟩, fun b hb => ?_⟩
  · have hj6 : j < 2 := by rw [← acells x]; exact (List.getElem?_eq_some_iff.1 hj).1
    rw [hcell, Nat.zero_add, flatE_get acells hi j hj6]
    exact hj
  · subst hb
    have h0 := hcell 0
    cases hz : W.heap[0]? with
    | none => exfalso; simp only [World.cell?, hz] at h0; exact absurd h0 (by rw [flatE_get acells (i := 0) (x := formsL[0]) rfl 0 (by decide)]; simp [fmcell])
    | some o => exact (Array.getElem?_eq_some_iff.1 hz).1
theorem iface_of_trod {P : Program} {w : World} {fuel : Nat} {t : TypeId} {ms : Array (String × TypeId)} {cs : List Value} {n : String} {d : DataW Unit} {p : List MemPlace} (ht : P.underlying t = some (.interface ms))
    (h : DataW.trod (fun _ => ()) P w 0 (fun _ => true) false fuel t cs = some (.iface n d, p)) : ∃ u v, cs = [.iface u v] := by
  cases fuel with
  | zero => simp [DataW.trod] at h
  | succ k =>
    match cs, h with
    | [], h => simp [DataW.trod, ht] at h
    | [v], h => cases v <;> simp [DataW.trod, ht] at h; exact ⟨_, _, rfl⟩
    | v :: v2 :: r, h => cases v <;> simp [DataW.trod, ht] at h
set_option maxRecDepth 100000 in
theorem lib_of_laid {W : World} (h : laidMetH Tryd.prog lay21 W) (hs : W.ShapedOpen Tryd.prog) : ∃ tE pE, (LibA tE pE).at_ W (fun b => b < 9) := by
  obtain ⟨g0, t0, cs0, f0, p0, hg0, ht0, hv0, hd0⟩ := Lib.laidMet.reads (laid21 h) (n := "strconv.ErrRange") (d := Rows.laid_strconv_ErrRange) (by unfold lay21 Rows.scriptReadsRow; simp)
  obtain rfl := Option.some.inj (gRange.symm.trans hg0)
  obtain rfl := Option.some.inj (tRange.symm.trans ht0)
  obtain ⟨tE, pE, e⟩ := iface_of_trod Tryd.underlying55 hd0
  have hcell : W.cell? ⟨6, 0, none⟩ = some (.iface tE pE) := by
    rw [World.var?_cell gRange hv0 0, ← Array.getElem?_toList, e]; rfl
  obtain ⟨g2, t2, cs2, f2, p2, hg2, ht2, hv2, hd2⟩ := Lib.laidMet.reads (laid21 h) (n := "internal/strconv.uint64pow10") (d := Rows.laid_internal_strconv_uint64pow10) (by unfold lay21 Rows.scriptReadsRow; simp)
  obtain rfl := Option.some.inj (gPow.symm.trans hg2)
  obtain rfl := Option.some.inj (tPow.symm.trans ht2)
  have e2 : (Rows.laid_internal_strconv_uint64pow10 : DataW Unit) = Lib.tabData .u64 Lib.pow10Tab := by kernel_rfl
  rw [e2] at hd2
  have e3 := Lib.cells_of_tab Tryd.underlying99 Tryd.underlying91 (by kernel_rfl) (by kernel_rfl) hd2
  obtain ⟨_, _, cs8, _, _, _, _, hv8, _⟩ := Lib.laidMet.reads (laid21 h) (n := "math/bits.deBruijn64tab") (d := Rows.laid_math_bits_deBruijn64tab) (by unfold lay21 Rows.scriptReadsRow; simp)
  refine ⟨tE, pE, ⟨?_, ?_, hcell, ?_⟩, fun b => Iff.rfl⟩
  · cases hz : W.heap[8]? with
    | none => simp [World.var?, gBits, hz] at hv8
    | some o => have := (Array.getElem?_eq_some_iff.1 hz).1; omega
  · exact cell_of_shapedOpen_int (g := 1) (t := 3) (zero := #[.int .i64 0]) hs (by decide +kernel) (by kernel_rfl) rfl (by kernel_rfl) (by kernel_rfl) Tryd.underlying3
  · unfold Lib.TabIs
    rw [hv2, ← e3]
set_option maxRecDepth 100000 in
theorem frame21 {H : Type} {enc : TypeId × Value → H} {os : Os} {f : FuncId} {fn : Func} {s : ChangeSpec}
    (started : os.Started) (noInit : Tryd.prog.inits.idxOf? f = none) (hfn : Tryd.prog.funcs[f]? = some fn)
    (witness : ∃ (w : World) (tape : Tape) (i : Input), w.os = os ∧ (w.forCall tape i).Shaped Tryd.prog ∧ i.vars = [] ∧ Input.okWide Tryd.prog (w.forCall tape i) .any w.heap.size f i ∧
      ((s.pre enc Tryd.prog fn [] false (w.forCall tape i).memory i.args ∧ laidMetH Tryd.prog lay21 (w.forCall tape i).memory) ∧ sizedMet enc Tryd.prog fn (OpenSpec.ofChange s) false (w.forCall tape i).memory i.args) ∧ ({} : Assume).holds Tryd.prog (lone (Frame.enter Tryd.prog f i.args .normal) [] (w.forCall tape i)))
    (body : ∀ (W : World) (base : Nat) (args : Array Value) (ds gs : List (DataW H)) (before : List MemPlace),
      (∀ (j : Nat) t v, fn.params[j]? = some t → args[j]? = some v → Value.okWide Tryd.prog W .any base t v) →
      DataW.Whole enc Tryd.prog fn.params.toList s.vars false W args.toList ds gs before →
      laidMetH Tryd.prog lay21 W → W.ShapedOpen Tryd.prog →
      Calls Tryd.prog f args W fun e W' => ∃ v, e = .returned v ∧ s.post enc Tryd.prog fn false true false false W args v W') :
    ReturnsInHanded {} Tryd.checked os f .any (fun w args => (s.pre enc Tryd.prog fn [] false w args ∧ laidMetH Tryd.prog lay21 w) ∧ sizedMet enc Tryd.prog fn (OpenSpec.ofChange s) false w args) (s.post enc Tryd.prog fn false true false false) := by
  refine returnsInHanded_of_calls (C := Tryd.checked) Tryd.own started noInit witness ?_
  intro w tape i _ hsh _ hok hpre _
  obtain ⟨_, _, _, fn', hfn', _, _, _, _, hval⟩ := hok
  obtain rfl : fn' = fn := Option.some.inj (hfn'.symm.trans hfn)
  obtain ⟨⟨⟨ds, gs, before, hw, hc⟩, hx⟩, hz⟩ := hpre
  refine (body (w.forCall tape i) w.heap.size i.args ds gs before hval (DataW.Whole.of_heap (w' := w.forCall tape i) (by rfl) hw) (hx.of_heap (by rfl)) hsh).mono ?_
  rintro e W' ⟨v, rfl, hp⟩
  exact ChangeSpec.post_blind hp
end Go.Proofs.YtkcnbejpmknaoaaDoor

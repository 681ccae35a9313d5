import Derived.Test.YtcbdacmdmaoegaaMem
import Derived.ProofKit
import Derived.Deep.Slices
import Derived.OpenShut
/- Opening a law's arguments: a value that reads as data, of a type whose cells are all plain, or a slice of such; and the row's last step where all below is as it was. -/
namespace Go.Proofs.Ytcbdacmdmaoegaa.Mem
open Go.RowKit Go.WideShapes Go.ChangeShapes Go.Deep
section
variable {H : Type} {enc : TypeId × Value → H} {P : Program} {w : World} {base : Nat} {spare : Nat → Bool} {held : Bool}
/-- A number is one of its kind, a text is not too long. -/
def wfv : Value → Bool
  | .int k n => (Lit.int k n).wf
  | .string s => decide (s.size ≤ maxLen)
  | _ => true
theorem fits_join : ∀ {ks ls : List TypeDesc} {vs us : List Value}, fits ks vs = true → fits ls us = true → fits (ks ++ ls) (vs ++ us) = true
  | [], _, [], _, _, h => h
  | k :: ks, ls, v :: vs, us, h, h2 => by
    simp only [fits, Bool.and_eq_true, List.cons_append] at h ⊢
    exact ⟨h.1, fits_join h.2 h2⟩
  | [], _, _ :: _, _, h, _ => by simp [fits] at h
  | _ :: _, _, [], _, h, _ => by simp [fits] at h
theorem trod_flat : ∀ (d : Nat) (t : TypeId) (ks : List TypeDesc), lay P d t = some ks → P.cellsOf t = ks.length → ∀ (fuel : Nat) (cs : List Value) (x : DataW H × List MemPlace),
    DataW.trod enc P w base spare held fuel t cs = some x → fits ks cs = true ∧ ∀ v ∈ cs, wfv v = true
  | 0, _, _, h, _, _, _, _, _ => by cases h
  | d + 1, t, ks, h, hc, fuel, cs, x, hx => by
    unfold lay at h
    cases hu : P.underlying t with
    | none => rw [hu] at h; cases h
    | some u =>
      rw [hu] at h
      cases u <;> simp only [reduceCtorEq, Option.some.injEq] at h
      case int k =>
        subst h
        obtain ⟨n, rfl, _, hw⟩ := DataW.trod_int hu hx
        exact ⟨by simp [fits, fit], fun v hv => by obtain rfl : v = _ := by simpa using hv
                                                   simpa [wfv] using hw⟩
      case string =>
        subst h
        obtain ⟨s, rfl, _, hs⟩ := DataW.trod_string hu hx
        exact ⟨by simp [fits, fit], fun v hv => by obtain rfl : v = _ := by simpa using hv
                                                   simpa [wfv] using hs⟩
      case bool =>
        subst h
        obtain ⟨b, rfl, _⟩ := DataW.trod_bool hu hx
        exact ⟨by simp [fits, fit], fun v hv => by obtain rfl : v = _ := by simpa using hv
                                                   rfl⟩
      case struct fs =>
        split at h
        · cases h
        · obtain ⟨xs, n, rfl, _, hlen, hxl, hf⟩ := DataW.trod_struct hu hx
          have key : ∀ (l : List Field) (i off : Nat) (ks : List TypeDesc), (∀ j f, l[j]? = some f → fs[i + j]? = some f) → layFields P (lay P d) l off = some ks → off + ks.length ≤ cs.length →
              fits ks ((cs.drop off).take ks.length) = true ∧ ∀ v ∈ (cs.drop off).take ks.length, wfv v = true := by
            intro l
            induction l with
            | nil => intro i off ks _ h _; simp only [layFields, Option.some.injEq] at h; subst h; simp [fits]
            | cons f l ih =>
              intro i off ks hl h hle
              unfold layFields at h
              split at h
              · cases h
              · rename_i hno
                have hoff : f.offset = off := by have := not_or.1 hno; exact Decidable.not_not.1 this.2
                split at h
                · cases h
                · rename_i k1 hk1
                  split at h
                  · cases h
                  · rename_i hsz
                    have hsz' := Decidable.not_not.1 hsz
                    split at h
                    · cases h
                    · rename_i r hr
                      simp only [Option.some.injEq] at h
                      subst h
                      rw [List.length_append] at hle
                      have hfi : fs[i]? = some f := hl 0 f rfl
                      have h1 := hf i f hfi
                      obtain ⟨y, hy⟩ : ∃ y, xs[i]? = some y := ⟨_, List.getElem?_eq_getElem (by rw [hxl]; exact (Array.getElem?_eq_some_iff.1 hfi).1)⟩
                      rw [hy, hoff, hsz'] at h1
                      have a1 := trod_flat d f.type k1 hk1 hsz' n _ y h1
                      have a2 := ih (i + 1) (off + k1.length) r (fun j g hg => by have := hl (j + 1) g (by simpa using hg); rwa [show i + 1 + j = i + (j + 1) by omega]) hr (by omega)
                      have e : (cs.drop off).take (k1 ++ r).length = (cs.drop off).take k1.length ++ (cs.drop (off + k1.length)).take r.length := by
                        rw [List.length_append, List.take_add, List.drop_drop]
                      rw [e]
                      exact ⟨fits_join a1.1 a2.1, fun v hv => (List.mem_append.1 hv).elim (a1.2 v) (a2.2 v)⟩
          have := key fs.toList 0 0 ks (fun j f hj => by simpa using hj) h (by omega)
          rw [List.drop_zero, List.take_of_length_le (by omega)] at this
          exact this
      case array m e =>
        cases hd : lay P d e with
        | none => rw [hd] at h; cases h
        | some k1 =>
          rw [hd] at h
          simp only at h
          split at h
          · cases h
          · rename_i hsz
            have hsz' := Decidable.not_not.1 hsz
            simp only [Option.some.injEq] at h
            obtain ⟨xs, n, rfl, _, hlen, hxl, hf⟩ := DataW.trod_array hu hx
            have key : ∀ (q i : Nat), i + q ≤ m → fits (List.replicate q k1).flatten ((cs.drop (i * k1.length)).take (q * k1.length)) = true ∧ ∀ v ∈ (cs.drop (i * k1.length)).take (q * k1.length), wfv v = true := by
              intro q
              induction q with
              | zero => intro i _; simp [fits]
              | succ q ih =>
                intro i hi
                have h1 := hf i (by omega)
                obtain ⟨y, hy⟩ : ∃ y, xs[i]? = some y := ⟨_, List.getElem?_eq_getElem (by omega)⟩
                rw [hy, hsz'] at h1
                have a1 := trod_flat d e k1 hd hsz' n _ y h1
                have a2 := ih (i + 1) (by omega)
                have e : (cs.drop (i * k1.length)).take ((q + 1) * k1.length) = (cs.drop (i * k1.length)).take k1.length ++ (cs.drop ((i + 1) * k1.length)).take (q * k1.length) := by
                  rw [show (q + 1) * k1.length = k1.length + q * k1.length by rw [Nat.add_mul]; omega, List.take_add, List.drop_drop, show (i + 1) * k1.length = i * k1.length + k1.length by rw [Nat.add_mul]; omega]
                rw [e, List.replicate_succ, List.flatten_cons]
                exact ⟨fits_join a1.1 a2.1, fun v hv => (List.mem_append.1 hv).elim (a1.2 v) (a2.2 v)⟩
            have := key m 0 (by omega)
            subst h
            have hl2 : ((List.replicate m k1).flatten).length = m * k1.length := by simp
            rw [hl2] at hc
            rw [Nat.zero_mul, List.drop_zero, List.take_of_length_le (by omega)] at this
            exact this

/-- A slice of a type whose cells are all plain. -/
theorem open_slice_flat {t e : TypeId} {ks : List TypeDesc} {α : Type} (en : α → List Value) (ok : α → Prop) (ht : P.underlying t = some (.slice e)) (hl : lay P 100 e = some ks) (hk : P.cellsOf e = ks.length) (h0 : 0 < ks.length)
    (dec : ∀ vs, fits ks vs = true → (∀ v ∈ vs, wfv v = true) → ∃ x : α, en x = vs ∧ ok x) {fuel : Nat} {cs : List Value} {x : DataW H × List MemPlace} (h : DataW.trod enc P w base spare held fuel t cs = some x) :
    ∃ (a : Option Addr) (c : Nat) (xs : List α), cs = [.slice a xs.length c] ∧ xs.length ≤ c ∧ c ≤ maxLen ∧ (a = none → xs = [] ∧ c = 0) ∧ (∀ y ∈ xs, ok y) ∧
      ∀ (i : Nat) y, xs[i]? = some y → ∃ R o, a = some ⟨R, o, none⟩ ∧ ∀ j u, (en y)[j]? = some u → w.cell? ⟨R, o + i * ks.length + j, none⟩ = some u := by
  rcases open_slice ht h with ⟨rfl, _⟩ | ⟨a, len, cap, m, n, D, Pl, rfl, _, hlc, hcm, hm, _, hx⟩
  · exact ⟨none, 0, [], rfl, Nat.le_refl _, by simp [maxLen], fun _ => ⟨rfl, rfl⟩, fun _ h => (by cases h), fun i y h => (by simp at h)⟩
  · have hlm : len ≤ m := by rw [hm]; split <;> omega
    have each : ∀ i, i < len → ∃ y : α, ok y ∧ ∃ R o, a = ⟨R, o, none⟩ ∧ ∀ j u, (en y)[j]? = some u → w.cell? ⟨R, o + i * ks.length + j, none⟩ = some u := by
      intro i hi
      obtain ⟨vs, h1, h2⟩ := hx i (by omega)
      obtain ⟨hf, hw⟩ := trod_flat 100 e ks hl hk n vs _ h2
      obtain ⟨y, hy, hok⟩ := dec vs hf hw
      obtain ⟨_, hlen, hcell⟩ := World.cells?_some h1
      rw [hk] at hlen hcell
      refine ⟨y, hok, a.block, a.off, ?_, fun j u hj => ?_⟩
      · have h3 := hcell 0 h0
        rw [List.getElem?_eq_getElem (by omega)] at h3
        obtain ⟨R, o, sp⟩ := a
        cases sp with
        | none => rfl
        | some s =>
          exfalso
          have h4 : (((⟨R, o, some s⟩ : Addr).add (i * ks.length)).add 0) = (⟨R, o, some s⟩ : Addr).add (i * ks.length) := by simp [Addr.add]
          rw [h4] at h3
          have : ∃ q, w.cell? ((⟨R, o, some s⟩ : Addr).add 0) = some q := by
            obtain ⟨vs0, g1, _⟩ := hx 0 (by omega)
            obtain ⟨_, gl, gc⟩ := World.cells?_some g1
            rw [hk] at gl gc
            have g3 := gc 0 h0
            rw [List.getElem?_eq_getElem (by omega)] at g3
            exact ⟨_, by simpa [Addr.add] using g3⟩
          obtain ⟨q, hq⟩ := this
          simp only [Addr.add, if_true, World.cell?] at hq
          split at hq <;> simp at hq
      · have hjl : j < ks.length := by have := (List.getElem?_eq_some_iff.1 hj).1; rw [hy] at this; omega
        have h3 := hcell j hjl
        rw [hy] at hj
        rw [hj] at h3
        have hsp : a.spot = none := by
          obtain ⟨vs0, g1, _⟩ := hx 0 (by omega)
          obtain ⟨_, gl, gc⟩ := World.cells?_some g1
          rw [hk] at gl gc
          have g3 := gc 0 h0
          rw [List.getElem?_eq_getElem (by omega)] at g3
          simp only [Nat.zero_mul, Addr.add, if_true, World.cell?] at g3
          cases hs : a.spot with
          | none => rfl
          | some s => rw [hs] at g3; split at g3 <;> simp at g3
        rw [← h3]
        congr 1
        obtain ⟨R, o, sp⟩ := a
        simp only at hsp
        subst hsp
        unfold Addr.add
        split <;> split <;> simp_all
    have choose : ∀ n, n ≤ len → ∃ xs : List α, xs.length = n ∧ ∀ i y, xs[i]? = some y → ok y ∧ ∃ R o, a = ⟨R, o, none⟩ ∧ ∀ j u, (en y)[j]? = some u → w.cell? ⟨R, o + i * ks.length + j, none⟩ = some u := by
      intro n
      induction n with
      | zero => intro _; exact ⟨[], rfl, fun i y h => by simp at h⟩
      | succ n ih =>
        intro hn
        obtain ⟨xs, hl, hxs⟩ := ih (by omega)
        obtain ⟨y, hy⟩ := each n (by omega)
        refine ⟨xs ++ [y], by simp [hl], fun i z hz => ?_⟩
        by_cases hi : i < n
        · rw [List.getElem?_append_left (by omega)] at hz
          exact hxs i z hz
        · have hi2 : i = n := by have := (List.getElem?_eq_some_iff.1 hz).1; simp at this; omega
          subst hi2
          rw [List.getElem?_append_right (by omega)] at hz
          simp [hl] at hz
          subst hz
          exact hy
    obtain ⟨xs, rfl, hxs⟩ := choose len (Nat.le_refl _)
    refine ⟨some a, cap, xs, rfl, hlc, hcm, fun h => (by cases h), fun y hy => ?_, fun i y hi => ?_⟩
    · obtain ⟨i, hi, rfl⟩ := List.mem_iff_getElem.1 hy
      exact (hxs i _ (List.getElem?_eq_getElem hi)).1
    · obtain ⟨_, R, o, e, hc⟩ := hxs i y hi
      exact ⟨R, o, by rw [e], hc⟩

/-- The row's last step: all that was there is as it was. -/
theorem post_of_below {f : Func} {s : ChangeSpec} {apart fresh handsOn again : Bool} {W W' : World} {args : Array Value} {v : Value} {ds gs : List (DataW H)} {before pa pv : List MemPlace}
    (hW : DataW.Whole enc P f.params.toList s.vars apart W args.toList ds gs before)
    (hres : ∀ (b : Nat) (sp : Nat → Bool) (hd : Bool), DataW.TrodAll enc P W' b sp hd f.resultTypes.toList (v.resultList f.resultTypes.size) (s.fn H (ds ++ gs)).results [])
    (hargs : ∀ sp : Nat → Bool, (∀ p ∈ before, sp p.block = true) → DataW.TrodAll enc P W' 0 sp true f.params.toList args.toList (s.fn H (ds ++ gs)).args pa)
    (hvars : ∀ sp : Nat → Bool, (∀ p ∈ before, sp p.block = true) → DataW.TrodVars enc P W' sp s.vars (s.fn H (ds ++ gs)).vars pv)
    (hps : before = pa ++ pv) (hb : Below W.heap.size W W')
    (hok : ∀ (j : Nat) (t : TypeId) (r : Value), f.resultTypes[j]? = some t → (v.resultList f.resultTypes.size)[j]? = some r → Value.okWide P W' .any 0 t r) :
    s.post enc P f apart fresh handsOn again W args v W' := by
  have hlt : ∀ p ∈ before, p.block < W.heap.size := fun p hp => hW.lt p hp
  have hold : ∀ p ∈ before, (fun b => decide (b < W.heap.size)) p.block = true := fun p hp => by simpa using hlt p hp
  refine ⟨ds, gs, before, [], pa, pv, hW, hres _ _ _, hargs _ hold, hvars _ hold, World.keptBut_mono (fun p hp => ⟨hp, ?_⟩) (hb.to.frame (· ∈ before)), fun _ => ?_⟩
  · rw [hps, List.mem_append] at hp
    exact Or.inr hp
  · obtain ⟨_, _, _, _, _, hz, hn⟩ := hW
    refine ⟨hok, _, _, ([] ++ pa) ++ pv, ⟨[] ++ pa, pv, trodAll_append (hargs _ (fun _ _ => rfl)) (hres _ _ _), hvars _ (fun _ _ => rfl), rfl, ?_, ?_⟩, ?_⟩
    · intro b off hp
      have hin : MemPlace.cell b off ∈ before := by rw [hps]; simpa using hp
      rw [hb.frozen (hlt _ hin)]
      exact hz b off hin
    · intro ha
      have := hn ha
      rw [hps] at this
      simpa using this
    · intro p hp _
      rw [hps]
      simpa using hp
/-- All arguments read behind the call as they did, through the same places. -/
theorem trodAll_stays (hl : laidOutB P = true) {W W' : World} (hb : Below W.heap.size W W') {sp : Nat → Bool} : ∀ (ts : List TypeId) (vs : List Value) (ds : List (DataW H)) (ps : List MemPlace),
    ts.all (fun t => P.readableRec t && decide (t < P.types.size)) = true → DataW.TrodAll enc P W 0 (fun _ => true) true ts vs ds ps → (∀ x ∈ ps, x.block < W.heap.size) → (∀ x ∈ ps, sp x.block = true) → DataW.TrodAll enc P W' 0 sp true ts vs ds ps
  | [], [], [], _, _, h, _, _ => h
  | t :: ts, v :: vs, d :: ds, ps, hr, h, hlt, hsp => by
    obtain ⟨p, q, h1, h2, rfl⟩ := h
    simp only [List.all_cons, Bool.and_eq_true, decide_eq_true_eq] at hr
    refine ⟨p, q, ?_, trodAll_stays hl hb ts vs ds q hr.2 h2 (fun x hx => hlt x (List.mem_append_right _ hx)) (fun x hx => hsp x (List.mem_append_right _ hx)), rfl⟩
    exact WideElems.Trod_stays hl hr.1.1 hr.1.2 h1 (fun x hx => hb.to.same (hlt x (List.mem_append_left _ hx))) (fun x hx => hsp x (List.mem_append_left _ hx))
  | [], [], _ :: _, _, _, h, _, _ => h.elim
  | [], _ :: _, _, _, _, h, _, _ => h.elim
  | _ :: _, [], _, _, _, h, _, _ => h.elim
  | _ :: _, _ :: _, [], _, _, h, _, _ => h.elim
/-- A struct of plain cells, as an argument. -/
theorem open_flat {t : TypeId} {fs : Array Field} {ks : List TypeDesc} {α : Type} {en : α → List Value} {ok : α → Prop} {w : World} {base : Nat} {spare : Nat → Bool} {held : Bool} {v : Value} {d : DataW H} {p : List MemPlace} {r : Reach} {base2 : Nat}
    (ht : P.underlying t = some (.struct fs)) (hl : lay P 100 t = some ks) (hk : P.cellsOf t = ks.length) (dec : ∀ vs, fits ks vs = true → (∀ v ∈ vs, wfv v = true) → ∃ x : α, en x = vs ∧ ok x)
    (h : DataW.Trod enc P w base spare held t v d p) (hv : Value.okWide P w r base2 t v) : ∃ x : α, v = .agg (en x).toArray ∧ ok x := by
  obtain ⟨cs, rfl, _⟩ := okWide_struct ht hv
  obtain ⟨fuel, hf⟩ := h
  obtain ⟨h1, h2⟩ := trod_flat 100 t ks hl hk fuel _ _ hf
  obtain ⟨x, hx, hok⟩ := dec _ h1 h2
  exact ⟨x, by rw [hx]; simp [Value.cells], hok⟩
end
end Go.Proofs.Ytcbdacmdmaoegaa.Mem

import Derived.Test.YtfiiaechippboaaDoorOpen
import Derived.LaidMore
/- A plain datum tells the cells that read as it: what a listed table holds. Over any program. -/
namespace Go.Proofs.YtfiiaechippboaaDoor.Mem
open Go.RowKit Go.WideShapes Go.ChangeShapes Go.Deep
section
variable {H : Type} {enc : TypeId × Value → H} {P : Program} {w : World} {base : Nat} {spare : Nat → Bool} {held : Bool}
def cellsD : Nat → DataW H → List Value
  | _ + 1, .lit (.int k n) => [.int k n]
  | _ + 1, .lit (.string s) => [.string ⟨s.toArray⟩]
  | _ + 1, .lit (.bool b) => [.bool b]
  | d + 1, .agg xs => xs.flatMap (cellsD d)
  | _, _ => []
theorem trod_cells : ∀ (d : Nat) (t : TypeId) (ks : List TypeDesc), lay P d t = some ks → P.cellsOf t = ks.length → ∀ (fuel : Nat) (cs : List Value) (x : DataW H × List MemPlace),
    DataW.trod enc P w base spare held fuel t cs = some x → cs = cellsD d x.1
  | 0, _, _, h, _, _, _, _, _ => by cases h
  | d + 1, t, ks, h, hc, fuel, cs, x, hx => by
    unfold lay at h
    cases hu : P.underlying t with
    | none => rw [hu] at h; cases h
    | some u =>
      rw [hu] at h
      cases u <;> simp only [reduceCtorEq, Option.some.injEq] at h
      case int k =>
        obtain ⟨n, rfl, rfl, _⟩ := DataW.trod_int hu hx
        rfl
      case string =>
        obtain ⟨s, rfl, rfl, _⟩ := DataW.trod_string hu hx
        simp [cellsD]
      case bool =>
        obtain ⟨b, rfl, rfl⟩ := DataW.trod_bool hu hx
        rfl
      case struct fs =>
        split at h
        · cases h
        · obtain ⟨xs, n, _, rfl, hlen, hxl, hf⟩ := DataW.trod_struct hu hx
          have key : ∀ (l : List Field) (i off : Nat) (ks : List TypeDesc), (∀ j f, l[j]? = some f → fs[i + j]? = some f) → layFields P (lay P d) l off = some ks → off + ks.length ≤ cs.length →
              (cs.drop off).take ks.length = ((xs.drop i).take l.length).flatMap (fun y => cellsD d y.1) := by
            intro l
            induction l with
            | nil => intro i off ks _ h _; simp only [layFields, Option.some.injEq] at h; subst h; simp
            | cons f l ih =>
              intro i off ks hl h hle
              unfold layFields at h
              split at h
              · cases h
              · rename_i hno
                have hoff : f.offset = off := by have := not_or.1 hno; exact Decidable.not_not.1 this.2
                split at h
                · cases h
                · rename_i k1 hk1
                  split at h
                  · cases h
                  · rename_i hsz
                    have hsz' := Decidable.not_not.1 hsz
                    split at h
                    · cases h
                    · rename_i r hr
                      simp only [Option.some.injEq] at h
                      subst h
                      rw [List.length_append] at hle
                      have hfi : fs[i]? = some f := hl 0 f rfl
                      have h1 := hf i f hfi
                      have hix : i < xs.length := by rw [hxl]; exact (Array.getElem?_eq_some_iff.1 hfi).1
                      obtain ⟨y, hy⟩ : ∃ y, xs[i]? = some y := ⟨_, List.getElem?_eq_getElem hix⟩
                      rw [hy, hoff, hsz'] at h1
                      have a1 := trod_cells d f.type k1 hk1 hsz' n _ y h1
                      have a2 := ih (i + 1) (off + k1.length) r (fun j g hg => by have := hl (j + 1) g (by simpa using hg); rwa [show i + 1 + j = i + (j + 1) by omega]) hr (by omega)
                      have e : (cs.drop off).take (k1 ++ r).length = (cs.drop off).take k1.length ++ (cs.drop (off + k1.length)).take r.length := by
                        rw [List.length_append, List.take_add, List.drop_drop]
                      have e2 : xs.drop i = y :: xs.drop (i + 1) := by
                        rw [List.drop_eq_getElem_cons hix]; congr 1; rw [List.getElem?_eq_getElem hix] at hy; exact Option.some.inj hy
                      rw [e, a1, a2, e2]
                      simp
          have := key fs.toList 0 0 ks (fun j f hj => by simpa using hj) h (by omega)
          rw [List.drop_zero, List.take_of_length_le (by omega), List.drop_zero, List.take_of_length_le (by simp; omega)] at this
          rw [this]
          simp [cellsD, List.flatMap_map]
      case array m e =>
        cases hd : lay P d e with
        | none => rw [hd] at h; cases h
        | some k1 =>
          rw [hd] at h
          simp only at h
          split at h
          · cases h
          · rename_i hsz
            have hsz' := Decidable.not_not.1 hsz
            simp only [Option.some.injEq] at h
            obtain ⟨xs, n, _, rfl, hlen, hxl, hf⟩ := DataW.trod_array hu hx
            have key : ∀ (q i : Nat), i + q ≤ m → (cs.drop (i * k1.length)).take (q * k1.length) = ((xs.drop i).take q).flatMap (fun y => cellsD d y.1) := by
              intro q
              induction q with
              | zero => intro i _; simp
              | succ q ih =>
                intro i hi
                have h1 := hf i (by omega)
                have hix : i < xs.length := by omega
                obtain ⟨y, hy⟩ : ∃ y, xs[i]? = some y := ⟨_, List.getElem?_eq_getElem hix⟩
                rw [hy, hsz'] at h1
                have a1 := trod_cells d e k1 hd hsz' n _ y h1
                have a2 := ih (i + 1) (by omega)
                have e : (cs.drop (i * k1.length)).take ((q + 1) * k1.length) = (cs.drop (i * k1.length)).take k1.length ++ (cs.drop ((i + 1) * k1.length)).take (q * k1.length) := by
                  rw [show (q + 1) * k1.length = k1.length + q * k1.length by rw [Nat.add_mul]; omega, List.take_add, List.drop_drop, show (i + 1) * k1.length = i * k1.length + k1.length by rw [Nat.add_mul]; omega]
                have e2 : xs.drop i = y :: xs.drop (i + 1) := by
                  rw [List.drop_eq_getElem_cons hix]; congr 1; rw [List.getElem?_eq_getElem hix] at hy; exact Option.some.inj hy
                rw [e, a1, a2, e2]
                simp
            have := key m 0 (by omega)
            subst h
            have hl2 : ((List.replicate m k1).flatten).length = m * k1.length := by simp
            rw [hl2] at hc
            rw [Nat.zero_mul, List.drop_zero, List.take_of_length_le (by omega), List.drop_zero, List.take_of_length_le (by omega)] at this
            rw [this]
            simp [cellsD, List.flatMap_map]
/-- A slice of whatever things are read one by one. -/
theorem open_slice_any {t e : TypeId} {k : Nat} {α : Type} (en : α → List Value) (ok : α → Prop) (ht : P.underlying t = some (.slice e)) (hk : P.cellsOf e = k) (h0 : 0 < k)
    (dec : ∀ (n : Nat) vs (x : DataW H × List MemPlace), DataW.trod enc P w base spare held n e vs = some x → ∃ x : α, en x = vs ∧ ok x) {fuel : Nat} {cs : List Value} {x : DataW H × List MemPlace} (h : DataW.trod enc P w base spare held fuel t cs = some x) :
    ∃ (a : Option Addr) (c : Nat) (xs : List α), cs = [.slice a xs.length c] ∧ xs.length ≤ c ∧ c ≤ maxLen ∧ (a = none → xs = [] ∧ c = 0) ∧ (∀ y ∈ xs, ok y) ∧
      ∀ (i : Nat) y, xs[i]? = some y → ∃ R o, a = some ⟨R, o, none⟩ ∧ ∀ j u, (en y)[j]? = some u → w.cell? ⟨R, o + i * k + j, none⟩ = some u := by
  rcases open_slice ht h with ⟨rfl, _⟩ | ⟨a, len, cap, m, n, D, Pl, rfl, _, hlc, hcm, hm, _, hx⟩
  · exact ⟨none, 0, [], rfl, Nat.le_refl _, by simp [maxLen], fun _ => ⟨rfl, rfl⟩, fun _ h => (by cases h), fun i y h => (by simp at h)⟩
  · have hlm : len ≤ m := by rw [hm]; split <;> omega
    have each : ∀ i, i < len → ∃ y : α, ok y ∧ ∃ R o, a = ⟨R, o, none⟩ ∧ ∀ j u, (en y)[j]? = some u → w.cell? ⟨R, o + i * k + j, none⟩ = some u := by
      intro i hi
      obtain ⟨vs, h1, h2⟩ := hx i (by omega)
      obtain ⟨y, hy, hok⟩ := dec n vs _ h2
      obtain ⟨_, hlen, hcell⟩ := World.cells?_some h1
      rw [hk] at hlen hcell
      refine ⟨y, hok, a.block, a.off, ?_, fun j u hj => ?_⟩
      · have h3 := hcell 0 h0
        rw [List.getElem?_eq_getElem (by omega)] at h3
        obtain ⟨R, o, sp⟩ := a
        cases sp with
        | none => rfl
        | some s =>
          exfalso
          have h4 : (((⟨R, o, some s⟩ : Addr).add (i * k)).add 0) = (⟨R, o, some s⟩ : Addr).add (i * k) := by simp [Addr.add]
          rw [h4] at h3
          have : ∃ q, w.cell? ((⟨R, o, some s⟩ : Addr).add 0) = some q := by
            obtain ⟨vs0, g1, _⟩ := hx 0 (by omega)
            obtain ⟨_, gl, gc⟩ := World.cells?_some g1
            rw [hk] at gl gc
            have g3 := gc 0 h0
            rw [List.getElem?_eq_getElem (by omega)] at g3
            exact ⟨_, by simpa [Addr.add] using g3⟩
          obtain ⟨q, hq⟩ := this
          simp only [Addr.add, if_true, World.cell?] at hq
          split at hq <;> simp at hq
      · have hjl : j < k := by have := (List.getElem?_eq_some_iff.1 hj).1; rw [hy] at this; omega
        have h3 := hcell j hjl
        rw [hy] at hj
        rw [hj] at h3
        have hsp : a.spot = none := by
          obtain ⟨vs0, g1, _⟩ := hx 0 (by omega)
          obtain ⟨_, gl, gc⟩ := World.cells?_some g1
          rw [hk] at gl gc
          have g3 := gc 0 h0
          rw [List.getElem?_eq_getElem (by omega)] at g3
          simp only [Nat.zero_mul, Addr.add, if_true, World.cell?] at g3
          cases hs : a.spot with
          | none => rfl
          | some s => rw [hs] at g3; split at g3 <;> simp at g3
        rw [← h3]
        congr 1
        obtain ⟨R, o, sp⟩ := a
        simp only at hsp
        subst hsp
        unfold Addr.add
        split <;> split <;> simp_all
    have choose : ∀ n, n ≤ len → ∃ xs : List α, xs.length = n ∧ ∀ i y, xs[i]? = some y → ok y ∧ ∃ R o, a = ⟨R, o, none⟩ ∧ ∀ j u, (en y)[j]? = some u → w.cell? ⟨R, o + i * k + j, none⟩ = some u := by
      intro n
      induction n with
      | zero => intro _; exact ⟨[], rfl, fun i y h => by simp at h⟩
      | succ n ih =>
        intro hn
        obtain ⟨xs, hl, hxs⟩ := ih (by omega)
        obtain ⟨y, hy⟩ := each n (by omega)
        refine ⟨xs ++ [y], by simp [hl], fun i z hz => ?_⟩
        by_cases hi : i < n
        · rw [List.getElem?_append_left (by omega)] at hz
          exact hxs i z hz
        · have hi2 : i = n := by have := (List.getElem?_eq_some_iff.1 hz).1; simp at this; omega
          subst hi2
          rw [List.getElem?_append_right (by omega)] at hz
          simp [hl] at hz
          subst hz
          exact hy
    obtain ⟨xs, rfl, hxs⟩ := choose len (Nat.le_refl _)
    refine ⟨some a, cap, xs, rfl, hlc, hcm, fun h => (by cases h), fun y hy => ?_, fun i y hi => ?_⟩
    · obtain ⟨i, hi, rfl⟩ := List.mem_iff_getElem.1 hy
      exact (hxs i _ (List.getElem?_eq_getElem hi)).1
    · obtain ⟨_, R, o, e, hc⟩ := hxs i y hi
      exact ⟨R, o, by rw [e], hc⟩

end
end Go.Proofs.YtfiiaechippboaaDoor.Mem

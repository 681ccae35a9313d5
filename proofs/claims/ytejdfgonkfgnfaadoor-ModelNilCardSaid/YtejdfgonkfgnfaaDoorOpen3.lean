import Derived.Test.YtejdfgonkfgnfaaDoorOpen
import Derived.LaidMore
/- A plain datum tells the cells that read as it: what a listed table holds. Over any program. -/
namespace Go.Proofs.YtejdfgonkfgnfaaDoor.Mem
open Go.RowKit Go.WideShapes Go.ChangeShapes Go.Deep
section
variable {H : Type} {enc : TypeId × Value → H} {P : Program} {w : World} {base : Nat} {spare : Nat → Bool} {held : Bool}
def cellsD : Nat → DataW H → List Value
  | _ + 1, .lit (.int k n) => [.int k n]
  | _ + 1, .lit (.string s) => [.string ⟨s.toArray⟩]
  | _ + 1, .lit (.bool b) => [.bool b]
  | d + 1, .agg xs => xs.flatMap (cellsD d)
  | _, _ => []
theorem trod_cells : ∀ (d : Nat) (t : TypeId) (ks : List TypeDesc), lay P d t = some ks → P.cellsOf t = ks.length → ∀ (fuel : Nat) (cs : List Value) (x : DataW H × List MemPlace),
    DataW.trod enc P w base spare held fuel t cs = some x → cs = cellsD d x.1
  | 0, _, _, h, _, _, _, _, _ => by cases h
  | d + 1, t, ks, h, hc, fuel, cs, x, hx => by
    unfold lay at h
    cases hu : P.underlying t with
    | none => rw [hu] at h; cases h
    | some u =>
      rw [hu] at h
      cases u <;> simp only [reduceCtorEq, Option.some.injEq] at h
      case int k =>
        obtain ⟨n, rfl, rfl, _⟩ := DataW.trod_int hu hx
        rfl
      case string =>
        obtain ⟨s, rfl, rfl, _⟩ := DataW.trod_string hu hx
        simp [cellsD]
      case bool =>
        obtain ⟨b, rfl, rfl⟩ := DataW.trod_bool hu hx
        rfl
      case struct fs =>
        split at h
        · cases h
        · obtain ⟨xs, n, _, rfl, hlen, hxl, hf⟩ := DataW.trod_struct hu hx
          have key : ∀ (l : List Field) (i off : Nat) (ks : List TypeDesc), (∀ j f, l[j]? = some f → fs[i + j]? = some f) → layFields P (lay P d) l off = some ks → off + ks.length ≤ cs.length →
              (cs.drop off).take ks.length = ((xs.drop i).take l.length).flatMap (fun y => cellsD d y.1) := by
            intro l
            induction l with
            | nil => intro i off ks _ h _; simp only [layFields, Option.some.injEq] at h; subst h; simp
            | cons f l ih =>
              intro i off ks hl h hle
              unfold layFields at h
              split at h
              · cases h
              · rename_i hno
                have hoff : f.offset = off := by have := not_or.1 hno; exact Decidable.not_not.1 this.2
                split at h
                · cases h
                · rename_i k1 hk1
                  split at h
                  · cases h
                  · rename_i hsz
                    have hsz' := Decidable.not_not.1 hsz
                    split at h
                    · cases h
                    · rename_i r hr
                      simp only [Option.some.injEq] at h
                      subst h
                      rw [List.length_append] at hle
                      have hfi : fs[i]? = some f := hl 0 f rfl
                      have h1 := hf i f hfi
                      have hix : i < xs.length := by rw [hxl]; exact (Array.getElem?_eq_some_iff.1 hfi).1
                      obtain ⟨y, hy⟩ : ∃ y, xs[i]? = some y := ⟨_, List.getElem?_eq_getElem hix⟩
                      rw [hy, hoff, hsz'] at h1
                      have a1 := trod_cells d f.type k1 hk1 hsz' n _ y h1
                      have a2 := ih (i + 1) (off + k1.length) r (fun j g hg => by have := hl (j + 1) g (by simpa using hg); rwa [show i + 1 + j = i + (j + 1) by omega]) hr (by omega)
                      have e : (cs.drop off).take (k1 ++ r).length = (cs.drop off).take k1.length ++ (cs.drop (off + k1.length)).take r.length := by
                        rw [List.length_append, List.take_add, List.drop_drop]
                      have e2 : xs.drop i = y :: xs.drop (i + 1) := by
                        rw [List.drop_eq_getElem_cons hix]; congr 1; rw [List.getElem?_eq_getElem hix] at hy; exact Option.some.inj hy
                      rw [e, a1, a2, e2]
                      simp
          have := key fs.toList 0 0 ks (fun j f hj => by simpa using hj) h (by omega)
          rw [List.drop_zero, List.take_of_length_le (by omega), List.drop_zero, List.take_of_length_le (by simp; omega)] at this
          rw [this]
          simp [cellsD, List.flatMap_map]
      case array m e =>
        cases hd : lay P d e with
        | none => rw [hd] at h; cases h
        | some k1 =>
          rw [hd] at h
          simp only at h
          split at h
          · cases h
          · rename_i hsz
            have hsz' := Decidable.not_not.1 hsz
            simp only [Option.some.injEq] at h
            obtain ⟨xs, n, _, rfl, hlen, hxl, hf⟩ := DataW.trod_array hu hx
            have key : ∀ (q i : Nat), i + q ≤ m → (cs.drop (i * k1.length)).take (q * k1.length) = ((xs.drop i).take q).flatMap (fun y => cellsD d y.1) := by
              intro q
              induction q with
              | zero => intro i _; simp
              | succ q ih =>
                intro i hi
                have h1 := hf i (by omega)
                have hix : i < xs.length := by omega
                obtain ⟨y, hy⟩ : ∃ y, xs[i]? = some y := ⟨_, List.getElem?_eq_getElem hix⟩
                rw [hy, hsz'] at h1
                have a1 := trod_cells d e k1 hd hsz' n _ y h1
                have a2 := ih (i + 1) (by omega)
                have e : (cs.drop (i * k1.length)).take ((q + 1) * k1.length) = (cs.drop (i * k1.length)).take k1.length ++ (cs.drop ((i + 1) * k1.length)).take (q * k1.length) := by
                  rw [show (q + 1) * k1.length = k1.length + q * k1.length by rw [Nat.add_mul]; omega, List.take_add, List.drop_drop, show (i + 1) * k1.length = i * k1.length + k1.length by rw [Nat.add_mul]; omega]
                have e2 : xs.drop i = y :: xs.drop (i + 1) := by
                  rw [List.drop_eq_getElem_cons hix]; congr 1; rw [List.getElem?_eq_getElem hix] at hy; exact Option.some.inj hy
                rw [e, a1, a2, e2]
                simp
            have := key m 0 (by omega)
            subst h
            have hl2 : ((List.replicate m k1).flatten).length = m * k1.length := by simp
            rw [hl2] at hc
            rw [Nat.zero_mul, List.drop_zero, List.take_of_length_le (by omega), List.drop_zero, List.take_of_length_le (by omega)] at this
            rw [this]
            simp [cellsD, List.flatMap_map]
end
end Go.Proofs.YtejdfgonkfgnfaaDoor.Mem

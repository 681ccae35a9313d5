import Derived.Test.YtmjljoaakdocaaaGreatDoorY06
import Derived.Test.YtmjljoaakdocaaaGreatDoorY07
/- What strings.Cut, Split and HasPrefix do, in states (chapter 21). -/
namespace Go.Proofs.YtmjljoaakdocaaaGreatDoor
open Go Go.RowKit Reg Mem

theorem below_drewN (w : World) : ∀ n : Nat, Below w.heap.size w (w.drewN n) := fun n => by
  have h : (w.drewN n).heap = w.heap ∧ (w.drewN n).os = w.os ∧ (w.drewN n).tape = w.tape ∧ (w.drewN n).output = w.output ∧ w.drawn ≤ (w.drewN n).drawn := by
    refine ⟨rfl, rfl, rfl, rfl, ?_⟩
    unfold World.drewN
    simp
  obtain ⟨h1, h2, h3, h4, h5⟩ := h
  exact ⟨h2, h3, h4, by rw [h1]; exact Nat.le_refl _, fun k _ => by rw [h1], h5⟩
theorem cut_calls (tE : TypeId) (pE : Value) (l : List UInt8) (w : World) (F : Nat → Prop) (h : (LibA tE pE).at_ w F) (hn : l.length ≤ 2147483647) :
    Calls Tryz.prog 116 #[strV l, .string ⟨#[35]⟩] w fun e w' => ∃ r b, e = .returned (.tuple #[strV ((splitGo 35 [] l).headD []), r, .bool b]) ∧ Below w.heap.size w w' := by
  obtain ⟨m, hm⟩ := h.1.maxLen
  have hc := Tryz.strings_Cut (str l) ⟨#[35]⟩ m w (by rw [str_size]; omega) hm
  rw [str_data, show (⟨#[35]⟩ : ByteArray).data.toList = [35] from rfl] at hc
  refine hc.mono fun e w' ⟨he, n, hw⟩ => ⟨.string ⟨(Lib.cut l [35]).2.1.toArray⟩, (Lib.cut l [35]).2.2, by rw [he, ← cut_go]; rfl, ?_⟩
  rw [hw]; exact below_drewN w n
theorem hp_calls (l : List UInt8) (w : World) : Calls Tryz.prog 119 #[strV l, .string ⟨#[120]⟩] w fun e w' => e = .returned (.bool (decide (l.head? = some 120))) ∧ Below w.heap.size w w' := by
  have hc := Tryz.strings_HasPrefix (str l) ⟨#[120]⟩ w
  rw [str_data, show (⟨#[120]⟩ : ByteArray).data.toList = [120] from rfl] at hc
  refine hc.mono fun e w' ⟨he, hw⟩ => ⟨?_, by rw [hw]; exact Below.refl _ _⟩
  rw [he]
  congr 2
  cases l with
  | nil => rfl
  | cons b l =>
    unfold Lib.hasPrefix
    simp only [List.isPrefixOf, Bool.and_true, List.head?_cons, Option.some.injEq]
    rw [Bool.eq_iff_iff, beq_iff_eq, decide_eq_true_eq]
    exact ⟨fun h => h.symm, fun h => h.symm⟩
theorem split_calls (tE : TypeId) (pE : Value) (l : List UInt8) (w : World) (F : Nat → Prop) (h : (LibA tE pE).at_ w F) (hn : l.length ≤ 2147483647) :
    Calls Tryz.prog 74 #[strV l, .string ⟨#[10]⟩] w fun e w' => ∃ R, e = .returned (.slice (some ⟨R, 0, none⟩) (splitGo 10 [] l).length (splitGo 10 [] l).length) ∧
      St (fun _ => False) w w' [Own 9 strcell 1 (.slice (some ⟨R, 0, none⟩) (splitGo 10 [] l).length (splitGo 10 [] l).length) (splitGo 10 [] l)] := by
  obtain ⟨m, hm⟩ := h.1.maxLen
  have hc := Tryz.strings_Split (str l) ⟨#[10]⟩ m w (by rw [str_size]; omega) hm (by decide)
  have hg := splitB_go 10 (str l)
  rw [str_data] at hg
  have hl : Lib.countB (str l) ⟨#[10]⟩ + 1 = (splitGo 10 [] l).length := by
    rw [← hg, List.length_map]
    exact (Lib.splitB_all ⟨#[10]⟩ (by decide) 0 _ (str l) rfl).symm
  have hcells : ((Lib.splitB ⟨#[10]⟩ 0 (Lib.countB (str l) ⟨#[10]⟩) (str l)).map Value.string) = flatE strcell (splitGo 10 [] l) := by
    rw [← hg]
    generalize Lib.splitB ⟨#[10]⟩ 0 (Lib.countB (str l) ⟨#[10]⟩) (str l) = xs
    induction xs with
    | nil => rfl
    | cons x xs ih => rw [List.map_cons, List.map_cons, flatE_cons, ih]; simp only [strcell, List.singleton_append, strV]; rw [← str_of]
  have hlen := split_len 10 l []
  have hcnt : l.count 10 ≤ l.length := List.count_le_length
  refine hc.mono fun e w' ⟨he, hw⟩ => ⟨w.heap.size, by rw [he, hl], ?_⟩
  rw [hw, hcells]
  refine (St.init (fun _ => False) w).grow (F := fun x => x = w.heap.size) (keep_alloc w _) ⟨?_, fun x => by simp [Value.ownBlock, eq_comm]⟩ (fun _ e => Nat.le_of_eq e.symm)
  refine ⟨by rw [flatE_length strcells], .inr ⟨w.heap.size, _, _, rfl, Nat.zero_le _, heap_alloc_new w _, Nat.le_refl _, by unfold maxLen; omega, ?_, ?_⟩⟩
  · rw [List.size_toArray, flatE_length strcells]
  · have := flatE_length strcells (splitGo 10 [] l)
    rw [List.toList_toArray, ← this, List.take_length]
end Go.Proofs.YtmjljoaakdocaaaGreatDoor

import Derived.Test.YtcbdacmdmaoegaaOps
import Derived.Shelf.SlSortCmp.WholeK
import Derived.Shelf.SlSortCmp.Whole1
/- The library's slices.SortFunc on a slice that is owned, as a step of the state. Over any program. -/
namespace Go.Proofs.Ytcbdacmdmaoegaa.Mem
open Go Go.RowKit Reg Go.Shelf Go.Sort

/-- Blocks came, and answers were drawn: nothing else. -/
def Grew (w w' : World) : Prop := ∃ q os, w' = grow (w.drewN q) os
theorem Grew.refl (w : World) : Grew w w := ⟨0, #[], by simp [World.drewN]⟩
theorem grow_drewN (w : World) (os : Array Obj) (q : Nat) : (grow w os).drewN q = grow (w.drewN q) os := rfl
theorem Grew.trans {a b c : World} (h : Grew a b) (k : Grew b c) : Grew a c := by
  obtain ⟨q, os, rfl⟩ := h
  obtain ⟨r, os', rfl⟩ := k
  exact ⟨q + r, os ++ os', by rw [grow_drewN, grow_grow, World.drewN_drewN]⟩
theorem Grew.alloc {a b : World} (h : Grew a b) (o : Obj) : Grew a (b.alloc o) := h.trans ⟨0, #[o], by rw [alloc_eq_grow]; rfl⟩
theorem Grew.drew {a b : World} (h : Grew a b) : Grew a b.drew := h.trans ⟨1, #[], by simp; rfl⟩
theorem heap_grow (w : World) (os : Array Obj) {b : Nat} (hb : b < w.heap.size) : (grow w os).heap[b]? = w.heap[b]? := by
  show (w.heap ++ os)[b]? = _
  rw [Array.getElem?_append_left hb]
theorem Grew.keep {w w' : World} (h : Grew w w') (S : Nat → Prop) : Keep S w w' := by
  obtain ⟨q, os, rfl⟩ := h
  refine ⟨rfl, rfl, rfl, ?_, fun b hb _ => heap_grow _ os hb, Nat.le_add_right _ _⟩
  show w.heap.size ≤ (w.heap ++ os).size
  simp
theorem Grew.of_keep {w w' : World} (h : Keep (fun _ => False) w w') : Grew w w' := by
  refine ⟨w'.drawn - w.drawn, w'.heap.extract w.heap.size w'.heap.size, ?_⟩
  have hh : w'.heap = w.heap ++ w'.heap.extract w.heap.size w'.heap.size := by
    apply Array.ext_getElem?
    intro i
    by_cases hi : i < w.heap.size
    · rw [Array.getElem?_append_left hi, h.block i hi id]
    · rw [Array.getElem?_append_right (by omega), Array.getElem?_extract]
      have hs := h.size
      split
      · congr 1; omega
      · rw [Array.getElem?_eq_none (by omega)]
  have hd := h.drawn
  cases w; cases w'
  simp only [grow, World.drewN, World.mk.injEq]
  exact ⟨hh, h.tape, by simp only at hd ⊢; omega, h.os, h.output⟩
theorem Grew.below {w w' : World} (h : Grew w w') : Below w.heap.size w w' := (h.keep (fun _ => False)).below

section
variable {α : Type} [Inhabited α]
theorem putCells_take {enc : α → Value} {d : Array α} {c : Array Value} (h : d.size ≤ c.size) : (putCells enc 0 d c).toList.take d.size = d.toList.map enc := by
  apply List.ext_getElem?
  intro i
  by_cases hi : i < d.size
  · rw [List.getElem?_take_of_lt hi, Array.getElem?_toList, List.getElem?_map, Array.getElem?_toList, Array.getElem?_eq_getElem hi]
    simp only [putCells, Array.getElem?_mapIdx, Array.getElem?_eq_getElem (show i < c.size by omega), Option.map_some, Nat.zero_le, Nat.zero_add, true_and, if_pos hi, Nat.sub_zero, getElem!_pos d i hi]
  · rw [List.getElem?_eq_none (by simp; omega), List.getElem?_eq_none (by simp; omega)]
theorem size_putCells {enc : α → Value} {d : Array α} {c : Array Value} {o : Nat} : (putCells enc o d c).size = c.size := by simp [putCells]
theorem heap_putRow {enc : α → Value} {w : World} {R m o : Nat} {d : Array α} {cur : Array Value} {E : TypeId} {fr : Nat × Nat} (os : Array Obj) (hR : w.heap[R]? = some (.cells cur E fr)) :
    (grow (putRow enc (Sort.ahead w m) R o d) os).heap[R]? = some (.cells (putCells enc o d cur) E fr) := by
  have hl := (Array.getElem?_eq_some_iff.1 hR).1
  rw [heap_grow _ _ (by rw [size_putRow]; exact hl)]
  show (w.heap.modify R (onCells (putCells enc o d)))[R]? = _
  rw [Array.getElem?_modify, if_pos rfl, hR]; rfl
theorem keep_putRow {enc : α → Value} {w : World} {R m o : Nat} {d : Array α} (os : Array Obj) : Keep (fun b => b = R) w (grow (putRow enc (Sort.ahead w m) R o d) os) := by
  refine ⟨rfl, rfl, rfl, ?_, fun b hb hn => ?_, Nat.le_add_right _ _⟩
  · show w.heap.size ≤ ((w.heap.modify R _) ++ os).size
    simp
  · rw [heap_grow _ _ (by rw [size_putRow]; exact hb)]
    show (w.heap.modify R _)[b]? = _
    rw [Array.getElem?_modify, if_neg (fun e => hn e.symm)]
theorem flatK_list {enc : α → List Value} {k : Nat} (hk : ∀ x, (enc x).length = k) (d : Array α) : (flatK enc k d).toList = flatE enc d.toList := by
  apply List.ext_getElem?
  intro i
  by_cases hi : i < d.size * k
  · have k0 : 0 < k := by rcases Nat.eq_zero_or_pos k with h | h; · subst h; simp at hi
                          · exact h
    have hj : i / k < d.size := (Nat.div_lt_iff_lt_mul k0).2 hi
    have e1 : (flatK enc k d).toList[i]? = some ((enc d[i / k]!)[i % k]!) := by
      rw [Array.getElem?_toList, Array.getElem?_eq_getElem (by simpa using hi), ← get_flatK enc k d i hi, getElem!_pos (flatK enc k d) i (by simpa using hi)]
    have e2 : i / k * k + i % k = i := by rw [Nat.mul_comm]; exact Nat.div_add_mod i k
    have hg := flatE_get (enc := enc) hk (xs := d.toList) (i := i / k) (x := d[i / k]) (by rw [Array.getElem?_toList, Array.getElem?_eq_getElem hj]) (i % k) (Nat.mod_lt _ k0)
    rw [e2] at hg
    rw [e1, hg, getElem!_pos d (i / k) hj, List.getElem?_eq_getElem (by rw [hk]; exact Nat.mod_lt _ k0), getElem!_pos (enc d[i / k]) (i % k) (by rw [hk]; exact Nat.mod_lt _ k0)]
  · rw [List.getElem?_eq_none (by simp; omega), List.getElem?_eq_none (by rw [flatE_length hk]; simp; omega)]
theorem perm_list {d d' : Array α} (h : PermIn 0 d.size d d') : d'.toList.Perm d.toList := by
  obtain ⟨hs, _, hp⟩ := h
  simp [← hs] at hp
  rwa [List.take_of_length_le (by simp [hs])] at hp
theorem sorted_list {lt : α → α → Bool} {d d' : Array α} (hs : d'.size = d.size) (h : SortedIn lt 0 d.size d') : d'.toList.Pairwise (fun a b => lt b a = false) := by
  rw [List.pairwise_iff_getElem]
  intro i j hi hj hij
  simp only [Array.length_toList] at hi hj
  have := h i j (Nat.zero_le _) hij (by omega)
  rwa [getElem!_pos d' i hi, getElem!_pos d' j hj] at this
end

section
variable {P : Program} {ρ : Ren} {α : Type} [Inhabited α] {E : TypeId} {enc : α → List Value} {k : Nat} {G : Nat → Prop} {w0 w : World} {L : List Asn} {i : Nat}
/-- A slice of structs, sorted. -/
theorem sortK (Ly : SlLaysF0.n6 P ρ) (aE : ∀ w, (isAgg (ρ.t 24)).run P w = .ok true w) (zE : ∀ w, (Go.sizeOf (ρ.t 24)).run P w = .ok k w) (hk : ∀ x, (enc x).length = k) (h1 : ∀ x, ∀ v ∈ enc x, v.oneCell' = true) (cf : α → α → Int) (hO : SWO (ltOf cf))
    (g : Nat) (cb : Array Value) (eg : ∀ args w, (callFunc g args).run P w = .ok (.enter g args) w) {R n c : Nat} {xs : List α} (S : St G w0 w L) (hi : L[i]? = some (Own E enc k (.slice (some ⟨R, 0, none⟩) n c) xs)) (hn : xs.length < 4611686018427387904)
    (hcmp : ∀ W, Keep (fun b => b = R) w W → ∀ x y : α, Calls P g (#[.agg (enc x).toArray, .agg (enc y).toArray] ++ cb) W fun e w' => e = .returned (.int .i64 (cf x y)) ∧ Grew W w') :
    Calls P (ρ.f 6) #[.slice (some ⟨R, 0, none⟩) n c, .func (.func g) #[] cb] w fun e w' => e = .returned (.tuple #[]) ∧ ∃ ys : List α, ys.Perm xs ∧ ys.Pairwise (fun a b => ltOf cf b a = false) ∧ St G w0 w' (L.set i (Own E enc k (.slice (some ⟨R, 0, none⟩) n c) ys)) := by
  obtain ⟨F0, hF0⟩ := S.get hi
  obtain ⟨hlen, hown⟩ := hF0.1
  rcases hown with ⟨e, _⟩ | ⟨g', cap, cur, e, _, hg, hnc, hcm, hcs, htake⟩
  · simp at e
  · simp only [Value.slice.injEq, Option.some.injEq, Addr.mk.injEq] at e
    obtain ⟨⟨rfl, _, _⟩, rfl, rfl⟩ := e
    have hRl := (Array.getElem?_eq_some_iff.1 hg).1
    have hcells := World.ownsRow.cells (show w.ownsRow 0 E k _ _ _ from hF0.1) (g := R) rfl
    have hfl : (flatK enc k xs.toArray).toList = flatE enc xs := by rw [flatK_list hk]
    have hH : HoldsK enc k w R 0 xs.toArray := fun j hj => by
      have hj' : j < (flatE enc xs).length := by rw [← hfl]; simpa using hj
      refine ⟨?_, by rw [Nat.zero_add]; exact frozen_of hg j⟩
      have := hcells j (flatE enc xs)[j] (List.getElem?_eq_getElem hj')
      rw [add_none] at this
      rw [this]
      congr 1
      have e1 : (flatK enc k xs.toArray)[j]! = (flatE enc xs)[j] := by
        rw [getElem!_pos _ j hj, ← Array.getElem_toList]
        simp only [hfl]
      exact e1.symm
    have key := AnyQ.slices_SortFunc Ly k aE zE enc hk h1 cf hO g cb R 0 c xs.toArray w eg (fun m os dk hd x y => (hcmp _ (keep_putRow os) x y).mono fun _ _ ⟨he, q, os', hw⟩ => ⟨he, q, os', hw⟩) hH hRl (by simpa using hn)
    simp only [List.size_toArray] at key
    refine key.mono ?_
    rintro e w' ⟨rfl, d', m, os, hp, hs, rfl⟩
    have hds : d'.size = xs.length := by simpa using hp.1
    refine ⟨rfl, d'.toList, by simpa using perm_list (d := xs.toArray) (by simpa using hp), sorted_list (d := xs.toArray) (by simpa using hds) (by simpa using hs), S.step hi rfl fun F hF => ⟨F, (keep_putRow os).mono (fun x _ h e => h ((hF.2 x).2 (by simp [Value.ownBlock, e]))), ⟨?_, hF.2⟩, fun x h => .inl h⟩⟩
    have hsz : (flatK enc k d').size = xs.length * k := by simp [hds]
    have hcs' : xs.length * k ≤ cur.size := by rw [hcs]; exact Nat.mul_le_mul_right k hnc
    have hll : d'.toList.length = xs.length := by simpa using hds
    refine ⟨by rw [flatE_length hk], .inr ⟨R, c, putCells id 0 (flatK enc k d') cur, by rw [hll], Nat.zero_le _, heap_putRow os hg, by rw [hll]; exact hnc, hcm, by rw [size_putCells]; exact hcs, ?_⟩⟩
    have := putCells_take (enc := id) (d := flatK enc k d') (c := cur) (by rw [hsz]; exact hcs')
    rw [hsz, List.map_id, flatK_list hk] at this
    rw [hll]; exact this
/-- A slice of things of one cell, sorted. -/
theorem sort1 {en : α → Value} (Ly : SlLaysF.n6 P ρ) (h1 : OneCell en) (cf : α → α → Int) (hO : SWO (ltOf cf))
    (g : Nat) (cb : Array Value) (eg : ∀ args w, (callFunc g args).run P w = .ok (.enter g args) w) {R n c : Nat} {xs : List α} (S : St G w0 w L) (hi : L[i]? = some (Own E (fun x => [en x]) 1 (.slice (some ⟨R, 0, none⟩) n c) xs)) (hn : xs.length < 4611686018427387904)
    (hcmp : ∀ W, Keep (fun b => b = R) w W → ∀ x y : α, Calls P g (#[en x, en y] ++ cb) W fun e w' => e = .returned (.int .i64 (cf x y)) ∧ Grew W w') :
    Calls P (ρ.f 6) #[.slice (some ⟨R, 0, none⟩) n c, .func (.func g) #[] cb] w fun e w' => e = .returned (.tuple #[]) ∧ ∃ ys : List α, ys.Perm xs ∧ ys.Pairwise (fun a b => ltOf cf b a = false) ∧ St G w0 w' (L.set i (Own E (fun x => [en x]) 1 (.slice (some ⟨R, 0, none⟩) n c) ys)) := by
  obtain ⟨F0, hF0⟩ := S.get hi
  obtain ⟨hlen, hown⟩ := hF0.1
  rcases hown with ⟨e, _⟩ | ⟨g', cap, cur, e, _, hg, hnc, hcm, hcs, htake⟩
  · simp at e
  · simp only [Value.slice.injEq, Option.some.injEq, Addr.mk.injEq] at e
    obtain ⟨⟨rfl, _, _⟩, rfl, rfl⟩ := e
    have hRl := (Array.getElem?_eq_some_iff.1 hg).1
    have hcells := World.ownsRow.cells (show w.ownsRow 0 E 1 _ _ _ from hF0.1) (g := R) rfl
    have hfm : ∀ l : List α, flatE (fun x => [en x]) l = l.map en := fun l => by simp [flatE]; induction l with | nil => rfl | cons a l ih => simp [ih]
    have hH : Holds en w R 0 xs.toArray := fun j hj => by
      simp only [List.size_toArray] at hj
      refine ⟨?_, by rw [Nat.zero_add]; exact frozen_of hg j⟩
      have := hcells j (en xs[j]) (by rw [hfm, List.getElem?_map, List.getElem?_eq_getElem hj]; rfl)
      rw [add_none] at this
      rw [this, getElem!_pos xs.toArray j (by simpa using hj)]
      simp
    have key := Any.slices_SortFunc Ly en h1 cf hO g cb R 0 c xs.toArray w eg (fun m os dk hd x y => (hcmp _ (keep_putRow os) x y).mono fun _ _ ⟨he, q, os', hw⟩ => ⟨he, q, os', hw⟩) hH hRl (by simpa using hn)
    simp only [List.size_toArray] at key
    refine key.mono ?_
    rintro e w' ⟨rfl, d', m, os, hp, hs, rfl⟩
    have hds : d'.size = xs.length := by simpa using hp.1
    refine ⟨rfl, d'.toList, by simpa using perm_list (d := xs.toArray) (by simpa using hp), sorted_list (d := xs.toArray) (by simpa using hds) (by simpa using hs), S.step hi rfl fun F hF => ⟨F, (keep_putRow os).mono (fun x _ h e => h ((hF.2 x).2 (by simp [Value.ownBlock, e]))), ⟨?_, hF.2⟩, fun x h => .inl h⟩⟩
    have hll : d'.toList.length = xs.length := by simpa using hds
    refine ⟨by rw [hfm]; simp, .inr ⟨R, c, putCells en 0 d' cur, by rw [hll], Nat.zero_le _, heap_putRow os hg, by rw [hll]; exact hnc, hcm, by rw [size_putCells]; exact hcs, ?_⟩⟩
    have := putCells_take (enc := en) (d := d') (c := cur) (by rw [hds, hcs]; omega)
    rw [hds] at this
    rw [hll, Nat.mul_one, hfm]; exact this
end
end Go.Proofs.Ytcbdacmdmaoegaa.Mem

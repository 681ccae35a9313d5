import Derived.Test.YtmjljoaakdocaaaGreatDoorZ06
import Derived.Test.YtmjljoaakdocaaaGreatDoorZ01
import Derived.Sort.Statements
import Derived.Test.YtmjljoaakdocaaaGreatDoorZ03
import Derived.Shelf.SlSortCmp.WholeK
import Derived.Shelf.SlSortCmp.Whole1
import Derived.Test.YtmjljoaakdocaaaGreatDoorZ09
import Derived.Test.YtmjljoaakdocaaaGreatDoorZ04
/- Plain: where an event stands in a sorted list, or would stand; put in, and taken out. No program in sight. -/
namespace Go.Proofs.YtmjljoaakdocaaaGreatDoor
open Go

def plT (l : List Event) (e : Event) : Nat := (l.takeWhile fun x => decide (evLt x e)).length
theorem plT_le (l : List Event) (e : Event) : plT l e ≤ l.length := by
  unfold plT
  exact (List.takeWhile_prefix _).length_le
theorem plT_at : ∀ {l : List Event} {e : Event} {n : Nat}, n ≤ l.length → (∀ (k : Nat) x, k < n → l[k]? = some x → evLt x e) → (∀ (k : Nat) x, n ≤ k → l[k]? = some x → ¬ evLt x e) → n = plT l e
  | [], e, n, hn, _, _ => by simp at hn; simp [plT, hn]
  | a :: l, e, 0, _, _, h2 => by
    have := h2 0 a (Nat.le_refl _) rfl
    simp [plT, this]
  | a :: l, e, n + 1, hn, h1, h2 => by
    have ha := h1 0 a (by omega) rfl
    have := plT_at (l := l) (e := e) (n := n) (by simpa using hn) (fun k x hk hx => h1 (k + 1) x (by omega) (by simpa using hx)) (fun k x hk hx => h2 (k + 1) x (by omega) (by simpa using hx))
    simp only [plT, List.takeWhile_cons, ha, decide_true, if_true, List.length_cons] at *
    omega
theorem plT_lt : ∀ {l : List Event} {e : Event} {k : Nat} {x : Event}, k < plT l e → l[k]? = some x → evLt x e
  | [], _, k, x, _, hx => by simp at hx
  | a :: l, e, k, x, hk, hx => by
    by_cases ha : evLt a e
    · have e1 : plT (a :: l) e = plT l e + 1 := by simp [plT, ha]
      cases k with
      | zero => simp at hx; subst hx; exact ha
      | succ k => exact plT_lt (l := l) (k := k) (by omega) (by simpa using hx)
    · have e1 : plT (a :: l) e = 0 := by simp [plT, ha]
      omega
theorem plT_ge {l : List Event} {e : Event} (hl : UpT l) : ∀ {k : Nat} {x : Event}, plT l e ≤ k → l[k]? = some x → ¬ evLt x e := by
  induction l with
  | nil => intro k x _ hx; simp at hx
  | cons a l ih =>
    intro k x hk hx
    have h' := List.pairwise_cons.1 hl
    by_cases ha : evLt a e
    · have e1 : plT (a :: l) e = plT l e + 1 := by simp [plT, ha]
      cases k with
      | zero => omega
      | succ k => exact ih h'.2 (k := k) (by omega) (by simpa using hx)
    · cases k with
      | zero => simp at hx; subst hx; exact ha
      | succ k =>
        intro hxe
        have hx2 : x ∈ l := List.mem_of_getElem? (by simpa using hx)
        rcases Classical.em (evLt e a) with h | h
        · exact h'.1 x hx2 (evLt_trans hxe h)
        · have := evLt_total ha h; subst this; exact h'.1 x hx2 hxe
theorem plT_mem {l : List Event} {e : Event} (hl : UpT l) : e ∈ l ↔ l[plT l e]? = some e := by
  refine ⟨fun h => ?_, fun h => List.mem_of_getElem? h⟩
  obtain ⟨i, hi, hx⟩ := List.mem_iff_getElem.1 h
  have hx2 : l[i]? = some e := by rw [List.getElem?_eq_getElem hi, hx]
  have hge : plT l e ≤ i := by
    rcases Nat.lt_or_ge i (plT l e) with h | h
    · exact absurd (plT_lt h hx2) (evLt_irrefl e)
    · exact h
  have hlt : plT l e < l.length := by omega
  have hy : l[plT l e]? = some l[plT l e] := List.getElem?_eq_getElem hlt
  have h1 := plT_ge hl (Nat.le_refl _) hy
  have h2 : ¬ evLt e l[plT l e] := by
    rcases Nat.lt_or_eq_of_le hge with h | h
    · have := (List.pairwise_iff_getElem.1 hl) (plT l e) i hlt hi h
      rw [hx] at this; exact this
    · have e1 : l[plT l e] = e := Option.some.inj (hy.symm.trans (by rw [h]; exact hx2))
      rw [e1]; exact evLt_irrefl e
  rw [hy, evLt_total h1 h2]
theorem ins_plT {l : List Event} (e : Event) (hl : UpT l) : l.take (plT l e) ++ e :: l.drop (plT l e) = insTot e l := by
  refine upT_eq ?_ ?_ (insTot_up e l hl)
  · refine List.perm_middle.trans ?_
    rw [List.take_append_drop]
    exact (insTot_perm e l).symm
  · refine List.pairwise_append.2 ⟨hl.sublist (List.take_sublist _ _), List.pairwise_cons.2 ⟨fun y hy => ?_, hl.sublist (List.drop_sublist _ _)⟩, fun x hx y hy => ?_⟩
    · obtain ⟨i, hi, e1⟩ := List.mem_iff_getElem.1 hy
      exact plT_ge (e := e) hl (k := plT l e + i) (by omega) (by rw [← List.getElem?_drop, List.getElem?_eq_getElem hi, e1])
    · obtain ⟨i, hi, e1⟩ := List.mem_iff_getElem.1 hx
      rw [List.length_take] at hi
      have hxe : evLt x e := plT_lt (l := l) (k := i) (by omega) (by rw [← e1, List.getElem_take, List.getElem?_eq_getElem (by omega)])
      rcases List.mem_cons.1 hy with rfl | hy
      · exact fun h => evLt_irrefl _ (evLt_trans h hxe)
      · obtain ⟨j, hj, e2⟩ := List.mem_iff_getElem.1 hy
        have hye : ¬ evLt y e := plT_ge hl (k := plT l e + j) (x := y) (by omega) (by rw [← List.getElem?_drop, List.getElem?_eq_getElem hj, e2])
        exact fun h => hye (evLt_trans h hxe)
end Go.Proofs.YtmjljoaakdocaaaGreatDoor
/- The order of keys, plain. -/
namespace Go.Proofs.YtmjljoaakdocaaaGreatDoor
open Go.Sort

theorem Key.lt_iff (k l : Key) : k.lt l = true ↔ k.at_ < l.at_ ∨ (k.at_ = l.at_ ∧ (k.src < l.src ∨ (k.src = l.src ∧ (k.sent < l.sent ∨ (k.sent = l.sent ∧ k.no < l.no))))) := by
  unfold Key.lt
  split
  · simp; omega
  · split
    · simp; omega
    · split
      · simp; omega
      · simp; omega
end Go.Proofs.YtmjljoaakdocaaaGreatDoor
/- The library's slices.SortFunc on a slice that is owned, as a step of the state. Over any program. -/
namespace Go.Proofs.YtmjljoaakdocaaaGreatDoor.Mem
open Go Go.RowKit Reg Go.Shelf Go.Sort

def Grew (w w' : World) : Prop := ∃ q os, w' = grow (w.drewN q) os
theorem heap_grow (w : World) (os : Array Obj) {b : Nat} (hb : b < w.heap.size) : (grow w os).heap[b]? = w.heap[b]? := by
  show (w.heap ++ os)[b]? = _
  rw [Array.getElem?_append_left hb]
theorem Grew.of_keep {w w' : World} (h : Keep (fun _ => False) w w') : Grew w w' := by
  refine ⟨w'.drawn - w.drawn, w'.heap.extract w.heap.size w'.heap.size, ?_⟩
  have hh : w'.heap = w.heap ++ w'.heap.extract w.heap.size w'.heap.size := by
    apply Array.ext_getElem?
    intro i
    by_cases hi : i < w.heap.size
    · rw [Array.getElem?_append_left hi, h.block i hi id]
    · rw [Array.getElem?_append_right (by omega), Array.getElem?_extract]
      have hs := h.size
      split
      · congr 1; omega
      · rw [Array.getElem?_eq_none (by omega)]
  have hd := h.drawn
  cases w; cases w'
  simp only [grow, World.drewN, World.mk.injEq]
  exact ⟨hh, h.tape, by simp only at hd ⊢; omega, h.os, h.output⟩
section
variable {α : Type} [Inhabited α]
theorem putCells_take {enc : α → Value} {d : Array α} {c : Array Value} (h : d.size ≤ c.size) : (putCells enc 0 d c).toList.take d.size = d.toList.map enc := by
  apply List.ext_getElem?
  intro i
  by_cases hi : i < d.size
  · rw [List.getElem?_take_of_lt hi, Array.getElem?_toList, List.getElem?_map, Array.getElem?_toList, Array.getElem?_eq_getElem hi]
    simp only [putCells, Array.getElem?_mapIdx, Array.getElem?_eq_getElem (show i < c.size by omega), Option.map_some, Nat.zero_le, Nat.zero_add, true_and, if_pos hi, Nat.sub_zero, getElem!_pos d i hi]
  · rw [List.getElem?_eq_none (by simp; omega), List.getElem?_eq_none (by simp; omega)]
theorem size_putCells {enc : α → Value} {d : Array α} {c : Array Value} {o : Nat} : (putCells enc o d c).size = c.size := by simp [putCells]
theorem heap_putRow {enc : α → Value} {w : World} {R m o : Nat} {d : Array α} {cur : Array Value} {E : TypeId} {fr : Nat × Nat} (os : Array Obj) (hR : w.heap[R]? = some (.cells cur E fr)) :
    (grow (putRow enc (Sort.ahead w m) R o d) os).heap[R]? = some (.cells (putCells enc o d cur) E fr) := by
  have hl := (Array.getElem?_eq_some_iff.1 hR).1
  rw [heap_grow _ _ (by rw [size_putRow]; exact hl)]
  show (w.heap.modify R (onCells (putCells enc o d)))[R]? = _
  rw [Array.getElem?_modify, if_pos rfl, hR]; rfl
theorem keep_putRow {enc : α → Value} {w : World} {R m o : Nat} {d : Array α} (os : Array Obj) : Keep (fun b => b = R) w (grow (putRow enc (Sort.ahead w m) R o d) os) := by
  refine ⟨rfl, rfl, rfl, ?_, fun b hb hn => ?_, Nat.le_add_right _ _⟩
  · show w.heap.size ≤ ((w.heap.modify R _) ++ os).size
    simp
  · rw [heap_grow _ _ (by rw [size_putRow]; exact hb)]
    show (w.heap.modify R _)[b]? = _
    rw [Array.getElem?_modify, if_neg (fun e => hn e.symm)]
theorem flatK_list {enc : α → List Value} {k : Nat} (hk : ∀ x, (enc x).length = k) (d : Array α) : (flatK enc k d).toList = flatE enc d.toList := by
  apply List.ext_getElem?
  intro i
  by_cases hi : i < d.size * k
  · have k0 : 0 < k := by rcases Nat.eq_zero_or_pos k with h | h; · subst h; simp at hi
                          · exact h
    have hj : i / k < d.size := (Nat.div_lt_iff_lt_mul k0).2 hi
    have e1 : (flatK enc k d).toList[i]? = some ((enc d[i / k]!)[i % k]!) := by
      rw [Array.getElem?_toList, Array.getElem?_eq_getElem (by simpa using hi), ← get_flatK enc k d i hi, getElem!_pos (flatK enc k d) i (by simpa using hi)]
    have e2 : i / k * k + i % k = i := by rw [Nat.mul_comm]; exact Nat.div_add_mod i k
    have hg := flatE_get (enc := enc) hk (xs := d.toList) (i := i / k) (x := d[i / k]) (by rw [Array.getElem?_toList, Array.getElem?_eq_getElem hj]) (i % k) (Nat.mod_lt _ k0)
    rw [e2] at hg
    rw [e1, hg, getElem!_pos d (i / k) hj, List.getElem?_eq_getElem (by rw [hk]; exact Nat.mod_lt _ k0), getElem!_pos (enc d[i / k]) (i % k) (by rw [hk]; exact Nat.mod_lt _ k0)]
  · rw [List.getElem?_eq_none (by simp; omega), List.getElem?_eq_none (by rw [flatE_length hk]; simp; omega)]
theorem perm_list {d d' : Array α} (h : PermIn 0 d.size d d') : d'.toList.Perm d.toList := by
  obtain ⟨hs, _, hp⟩ := h
  simp [← hs] at hp
  rwa [List.take_of_length_le (by simp [hs])] at hp
theorem sorted_list {lt : α → α → Bool} {d d' : Array α} (hs : d'.size = d.size) (h : SortedIn lt 0 d.size d') : d'.toList.Pairwise (fun a b => lt b a = false) := by
  rw [List.pairwise_iff_getElem]
  intro i j hi hj hij
  simp only [Array.length_toList] at hi hj
  have := h i j (Nat.zero_le _) hij (by omega)
  rwa [getElem!_pos d' i hi, getElem!_pos d' j hj] at this
end

section
variable {P : Program} {ρ : Ren} {α : Type} [Inhabited α] {E : TypeId} {enc : α → List Value} {k : Nat} {G : Nat → Prop} {w0 w : World} {L : List Asn} {i : Nat}
theorem sortK (Ly : SlLaysF0.n6 P ρ) (aE : ∀ w, (isAgg (ρ.t 24)).run P w = .ok true w) (zE : ∀ w, (Go.sizeOf (ρ.t 24)).run P w = .ok k w) (hk : ∀ x, (enc x).length = k) (h1 : ∀ x, ∀ v ∈ enc x, v.oneCell' = true) (cf : α → α → Int) (hO : SWO (ltOf cf))
    (g : Nat) (cb : Array Value) (eg : ∀ args w, (callFunc g args).run P w = .ok (.enter g args) w) {R n c : Nat} {xs : List α} (S : St G w0 w L) (hi : L[i]? = some (Own E enc k (.slice (some ⟨R, 0, none⟩) n c) xs)) (hn : xs.length < 4611686018427387904)
    (hcmp : ∀ W, Keep (fun b => b = R) w W → ∀ x y : α, Calls P g (#[.agg (enc x).toArray, .agg (enc y).toArray] ++ cb) W fun e w' => e = .returned (.int .i64 (cf x y)) ∧ Grew W w') :
    Calls P (ρ.f 6) #[.slice (some ⟨R, 0, none⟩) n c, .func (.func g) #[] cb] w fun e w' => e = .returned (.tuple #[]) ∧ ∃ ys : List α, ys.Perm xs ∧ ys.Pairwise (fun a b => ltOf cf b a = false) ∧ St G w0 w' (L.set i (Own E enc k (.slice (some ⟨R, 0, none⟩) n c) ys)) := by
  obtain ⟨F0, hF0⟩ := S.get hi
  obtain ⟨hlen, hown⟩ := hF0.1
  rcases hown with ⟨e, _⟩ | ⟨g', cap, cur, e, _, hg, hnc, hcm, hcs, htake⟩
  · simp at e
  · simp only [Value.slice.injEq, Option.some.injEq, Addr.mk.injEq] at e
    obtain ⟨⟨rfl, _, _⟩, rfl, rfl⟩ := e
    have hRl := (Array.getElem?_eq_some_iff.1 hg).1
    have hcells := World.ownsRow.cells (show w.ownsRow 0 E k _ _ _ from hF0.1) (g := R) rfl
    have hfl : (flatK enc k xs.toArray).toList = flatE enc xs := by rw [flatK_list hk]
    have hH : HoldsK enc k w R 0 xs.toArray := fun j hj => by
      have hj' : j < (flatE enc xs).length := by rw [← hfl]; simpa using hj
      refine ⟨?_, by rw [Nat.zero_add]; exact frozen_of hg j⟩
      have := hcells j (flatE enc xs)[j] (List.getElem?_eq_getElem hj')
      rw [add_none] at this
      rw [this]
      congr 1
      have e1 : (flatK enc k xs.toArray)[j]! = (flatE enc xs)[j] := by
        rw [getElem!_pos _ j hj, ← Array.getElem_toList]
        simp only [hfl]
      exact e1.symm
    have key := AnyQ.slices_SortFunc Ly k aE zE enc hk h1 cf hO g cb R 0 c xs.toArray w eg (fun m os dk hd x y => (hcmp _ (keep_putRow os) x y).mono fun _ _ ⟨he, q, os', hw⟩ => ⟨he, q, os', hw⟩) hH hRl (by simpa using hn)
    simp only [List.size_toArray] at key
    refine key.mono ?_
    rintro e w' ⟨rfl, d', m, os, hp, hs, rfl⟩
    have hds : d'.size = xs.length := by simpa using hp.1
    refine ⟨rfl, d'.toList, by simpa using perm_list (d := xs.toArray) (by simpa using hp), sorted_list (d := xs.toArray) (by simpa using hds) (by simpa using hs), S.step hi rfl fun F hF => ⟨F, (keep_putRow os).mono (fun x _ h e => h ((hF.2 x).2 (by simp [Value.ownBlock, e]))), ⟨?_, hF.2⟩, fun x h => .inl h⟩⟩
    have hsz : (flatK enc k d').size = xs.length * k := by simp [hds]
    have hcs' : xs.length * k ≤ cur.size := by rw [hcs]; exact Nat.mul_le_mul_right k hnc
    have hll : d'.toList.length = xs.length := by simpa using hds
    refine ⟨by rw [flatE_length hk], .inr ⟨R, c, putCells id 0 (flatK enc k d') cur, by rw [hll], Nat.zero_le _, heap_putRow os hg, by rw [hll]; exact hnc, hcm, by rw [size_putCells]; exact hcs, ?_⟩⟩
    have := putCells_take (enc := id) (d := flatK enc k d') (c := cur) (by rw [hsz]; exact hcs')
    rw [hsz, List.map_id, flatK_list hk] at this
    rw [hll]; exact this
end
end Go.Proofs.YtmjljoaakdocaaaGreatDoor.Mem
/- The walk of inq.Compare: a total order of events. -/
namespace Go.Proofs.YtmjljoaakdocaaaGreatDoor
open Go.RowKit Reg Mem Go.Sort

def Event.tcmp (a b : Event) : Int := if a.key.lt b.key then -1 else if b.key.lt a.key then 1 else orL [icmp a.dst b.dst, icmp a.kind b.kind, icmp a.data b.data]
theorem bef_is {a b : Key} {v : Bool} (h : a.lt b = v) (w : World) : Calls Tryz.prog 114 #[.agg #[.int .i64 a.at_, .int .i64 a.src, .int .i64 a.sent, .int .i64 a.no], .agg #[.int .i64 b.at_, .int .i64 b.src, .int .i64 b.sent, .int .i64 b.no]] w fun e w' => e = .returned (.bool v) ∧ Below w.heap.size w w' := by
  subst h; exact before_calls _ _ _ _ _ _ _ _ _
set_option maxRecDepth 100000 in
set_option maxHeartbeats 4000000 in
theorem icmpare_calls (a b : Event) (w : World) : Calls Tryz.prog 178 #[.agg #[.int .i64 a.key.at_, .int .i64 a.key.src, .int .i64 a.key.sent, .int .i64 a.key.no, .int .i64 a.dst, .int .i64 a.kind, .int .i64 a.data], .agg #[.int .i64 b.key.at_, .int .i64 b.key.src, .int .i64 b.key.sent, .int .i64 b.key.no, .int .i64 b.dst, .int .i64 b.kind, .int .i64 b.data]] w fun e w' => e = .returned (.int .i64 (a.tcmp b)) ∧ Below w.heap.size w w' := by
  have S := St.init (fun _ => False) w
  cases h1 : a.key.lt b.key with
  | true =>
    have H1 := Lib.hid (bef_is h1)
    go_enter Tryz.func178, Tryz.ntmps178
    go_wp2_with first | (go_at_call 114; have hcz := fun w => H1.out w; (with_reducible refine Calls.mono (hcz _) ?_); clear hcz; rintro e wz ⟨rfl, hE⟩; replace S := S.ext (Keep.of_below hE); clear hE) | ((with_reducible apply wps_boxa S); (case hx => rfl); clear S; intro bz wz S) | ((with_reducible apply wps_loada (T := 56) (k := 4) S 0); (case hx | hi => rfl); (case hk => exact Nat.le_of_ble_eq_true rfl); (case hT => decide +kernel)) | ((with_reducible apply wps_loada (T := 56) (k := 4) S 1); (case hx | hi => rfl); (case hk => exact Nat.le_of_ble_eq_true rfl); (case hT => decide +kernel))
    go_ret
    exact ⟨ret_int (by unfold Event.tcmp; rw [if_pos h1]), S.below⟩
  | false =>
    have H1 := Lib.hid (bef_is h1)
    cases h2 : b.key.lt a.key with
    | true =>
      have H2 := Lib.hid (bef_is h2)
      go_enter Tryz.func178, Tryz.ntmps178
      go_wp2_with first | (go_at_call 114; have hcz := fun w => H1.out w; (with_reducible refine Calls.mono (hcz _) ?_); clear hcz; rintro e wz ⟨rfl, hE⟩; replace S := S.ext (Keep.of_below hE); clear hE) | (go_at_call 114; have hcz := fun w => H2.out w; (with_reducible refine Calls.mono (hcz _) ?_); clear hcz; rintro e wz ⟨rfl, hE⟩; replace S := S.ext (Keep.of_below hE); clear hE) | ((with_reducible apply wps_boxa S); (case hx => rfl); clear S; intro bz wz S) | ((with_reducible apply wps_loada (T := 56) (k := 4) S 0); (case hx | hi => rfl); (case hk => exact Nat.le_of_ble_eq_true rfl); (case hT => decide +kernel)) | ((with_reducible apply wps_loada (T := 56) (k := 4) S 1); (case hx | hi => rfl); (case hk => exact Nat.le_of_ble_eq_true rfl); (case hT => decide +kernel))
      go_ret
      exact ⟨ret_int (by unfold Event.tcmp; rw [h1, h2]; rfl), S.below⟩
    | false =>
      have H2 := Lib.hid (bef_is h2)
      have e : a.tcmp b = orL [icmp a.dst b.dst, icmp a.kind b.kind, icmp a.data b.data] := by unfold Event.tcmp; rw [h1, h2]; rfl
      rw [e]
      clear h1 h2 e
      go_enter Tryz.func178, Tryz.ntmps178
      go_wp2_with first | (go_at_call 114; have hcz := fun w => H1.out w; (with_reducible refine Calls.mono (hcz _) ?_); clear hcz; rintro e wz ⟨rfl, hE⟩; replace S := S.ext (Keep.of_below hE); clear hE) | (go_at_call 114; have hcz := fun w => H2.out w; (with_reducible refine Calls.mono (hcz _) ?_); clear hcz; rintro e wz ⟨rfl, hE⟩; replace S := S.ext (Keep.of_below hE); clear hE) | ((with_reducible apply wps_boxa S); (case hx => rfl); clear S; intro bz wz S) | ((with_reducible apply wps_loada (T := 56) (k := 4) S 0); (case hx | hi => rfl); (case hk => exact Nat.le_of_ble_eq_true rfl); (case hT => decide +kernel)) | ((with_reducible apply wps_loada (T := 56) (k := 4) S 1); (case hx | hi => rfl); (case hk => exact Nat.le_of_ble_eq_true rfl); (case hT => decide +kernel))
      (refine wp_region_w (soft := [0, 1, 2, 3, 4, 5, 6, 7, 8, 9, 10, 11, 12, 13, 14]) S ?hm ?hB ?_); (case hm => kernel_rfl); (case hB => decide +kernel); clear S
      iterate 15
        (with_reducible apply softs_cons)
        (case hw =>
          (with_reducible apply soft_of); (case hi => rfl)
          intro T wz S
          simp only [List.cons_append, List.nil_append] at S
          go_wp2_with first | (go_at_call 218; refine Calls.mono (cmpInt_calls _ _ _) ?_; rintro e wz ⟨rfl, hE⟩; replace S := S.ext (Keep.of_below hE); clear hE) | ((with_reducible refine tot_done ?ht ?_); (case ht => kernel_rfl)) | ((with_reducible apply wps_load S 0); (case hx | hi | hu => rfl); (case hT => decide +kernel)) | ((with_reducible apply wps_load S 1); (case hx | hi | hu => rfl); (case hT => decide +kernel))
          exact ⟨rfl, S⟩)
        (case hs => exact ⟨_, rfl, by kernel_rfl⟩)
      refine softs_nil ?_
      repeat'
        (first
          | ((with_reducible apply W_hard1 (i := 15)); (case hn => rfl); (case hr => decide +kernel)) | ((with_reducible apply W_hard1 (i := 16)); (case hn => rfl); (case hr => decide +kernel)) | ((with_reducible apply W_hard1 (i := 17)); (case hn => rfl); (case hr => decide +kernel)) | ((with_reducible apply W_hard2 (i := 16) (i' := 17)); (case hn => rfl); (case hr => decide +kernel)))
        all_goals
          intro wz S
          (with_reducible apply hard_of); (case hi => rfl)
          simp only [List.cons_append, List.nil_append] at S
          try simp only [pick, nth] at S
          go_wp2_with first | ((with_reducible apply wps_buildSlice (T := 92) (E := 3) (cs := #[.int .i64 (icmp a.dst b.dst), .int .i64 (icmp a.kind b.kind), .int .i64 (icmp a.data b.data)]) S); (case hr => intro w; kernel_rfl); clear S; intro bz wz S) | (go_at_call 217; refine Calls.mono (orInt_calls _ [icmp a.dst b.dst, icmp a.kind b.kind, icmp a.data b.data] _ _ (blk_sl _ intE_len (S.get (i := 2) rfl).choose_spec rfl rfl) (Nat.le_of_ble_eq_true rfl)) ?_; rintro e wz ⟨rfl, hE⟩; replace S := S.ext (Keep.of_below hE); clear hE) | ((with_reducible refine tot_done ?ht ?_); (case ht => kernel_rfl))
          first
            | refine ⟨_, S.pick [1, 2, 3, 4, 5, 6, 0] rfl, ?_⟩
            | refine ⟨_, S.pick [1, 2, 3, 4, 5, 0] rfl, ?_⟩
            | refine ⟨_, S.pick [1, 2, 3, 4, 0] rfl, ?_⟩
            | refine ⟨_, S.pick [1, 2, 3, 0] rfl, ?_⟩
            | refine ⟨_, S.pick [1, 2, 0] rfl, ?_⟩
            | refine ⟨_, S, ?_⟩
      (with_reducible apply W_done); (case hn => rfl); (case hr => decide +kernel)
      clear S
      intro wz S
      simp only [List.cons_append, List.nil_append] at S
      try simp only [pick, nth] at S
      go_wp2_with first | ((with_reducible apply wps_loada (T := 56) (k := 4) S 3); (case hx | hi => rfl); (case hk => exact Nat.le_of_ble_eq_true rfl); (case hT => decide +kernel))
      go_ret
      exact ⟨rfl, S.below⟩
theorem icmp_cases (x y : Int) : (x < y ∧ icmp x y = -1) ∨ (x = y ∧ icmp x y = 0) ∨ (y < x ∧ icmp x y = 1) := by
  unfold icmp
  rcases Int.lt_trichotomy x y with h | h | h
  · exact .inl ⟨h, by rw [if_pos h]⟩
  · exact .inr (.inl ⟨h, by rw [if_neg (by omega), if_neg (by omega)]⟩)
  · exact .inr (.inr ⟨h, by rw [if_neg (by omega), if_pos h]⟩)
theorem tcmp_neg (a b : Event) : decide (a.tcmp b < 0) = decide (evLt a b) := by
  rw [decide_eq_decide]
  have hl : ∀ k l : Key, k.lt l = decide (k.at_ < l.at_ ∨ (k.at_ = l.at_ ∧ (k.src < l.src ∨ (k.src = l.src ∧ (k.sent < l.sent ∨ (k.sent = l.sent ∧ k.no < l.no)))))) := fun k l => by
    rw [Bool.eq_iff_iff, Key.lt_iff]; simp
  unfold Event.tcmp evLt
  rw [hl, hl]
  simp only [decide_eq_true_eq]
  split
  · constructor
    · intro _; omega
    · intro _; omega
  · split
    · constructor
      · intro h; omega
      · intro _; omega
    · simp only [orL]
      rcases icmp_cases a.dst b.dst with ⟨h1, e1⟩ | ⟨h1, e1⟩ | ⟨h1, e1⟩ <;> rw [e1]
      · constructor
        · intro _; omega
        · intro _; simp
      · rcases icmp_cases a.kind b.kind with ⟨h2, e2⟩ | ⟨h2, e2⟩ | ⟨h2, e2⟩ <;> rw [e2]
        · constructor
          · intro _; omega
          · intro _; simp
        · rcases icmp_cases a.data b.data with ⟨h3, e3⟩ | ⟨h3, e3⟩ | ⟨h3, e3⟩ <;> rw [e3]
          · constructor
            · intro _; omega
            · intro _; simp
          · constructor
            · intro h; exact absurd h (by simp)
            · intro _; omega
          · constructor
            · intro h; exact absurd h (by simp)
            · intro _; omega
        · constructor
          · intro h; exact absurd h (by simp)
          · intro _; omega
      · constructor
        · intro h; exact absurd h (by simp)
        · intro _; omega
theorem swo_ev : SWO (ltOf Event.tcmp) := by
  have e : (ltOf Event.tcmp) = fun x y => decide (evLt x y) := by
    funext x y; exact tcmp_neg _ _
  rw [e]
  refine ⟨fun x => ?_, fun x y z h k => ?_, fun x y z h k => ?_⟩
  · simp [evLt_irrefl]
  · simp only [decide_eq_true_eq] at *; exact evLt_trans h k
  · simp only [decide_eq_false_iff_not] at *
    unfold evLt at *; omega
theorem sorted_ev {l ys : List Event} (hp : ys.Perm l) (hs : ys.Pairwise (fun a b => ltOf Event.tcmp b a = false)) : ys = sortT l := by
  refine sortT_eq hp (hs.imp fun {a b} h => ?_)
  have := tcmp_neg b a
  unfold ltOf at h
  rw [h] at this
  simpa using this.symm
theorem icmpare_grew (a b : Event) (w : World) : Calls Tryz.prog 178 #[.agg a.cells.toArray, .agg b.cells.toArray] w fun e w' => e = .returned (.int .i64 (a.tcmp b)) ∧ Grew w w' :=
  (icmpare_calls a b w).mono fun _ _ h => ⟨h.1, Grew.of_keep (Keep.of_below h.2)⟩
end Go.Proofs.YtmjljoaakdocaaaGreatDoor
/- The walk of slices.BinarySearchFunc of events, by inq's order. -/
namespace Go.Proofs.YtmjljoaakdocaaaGreatDoor
open Go Go.RowKit Reg Mem

theorem tcmp_self (a : Event) : a.tcmp a = 0 := by
  have hl : a.key.lt a.key = false := by
    rw [← Bool.not_eq_true, Key.lt_iff]; omega
  unfold Event.tcmp
  rw [hl]
  simp [icmp, orL]
theorem tcmp_zero (a b : Event) : (a.tcmp b == 0) = decide (a = b) := by
  by_cases h : a = b
  · subst h; rw [tcmp_self]; simp
  · rw [decide_eq_false h]
    by_cases h0 : a.tcmp b = 0
    · refine absurd ?_ h
      have hl : ∀ k l : Key, k.lt l = decide (k.at_ < l.at_ ∨ (k.at_ = l.at_ ∧ (k.src < l.src ∨ (k.src = l.src ∧ (k.sent < l.sent ∨ (k.sent = l.sent ∧ k.no < l.no)))))) := fun k l => by
        rw [Bool.eq_iff_iff, Key.lt_iff]; simp
      unfold Event.tcmp at h0
      rw [hl, hl] at h0
      simp only [decide_eq_true_eq] at h0
      split at h0
      · simp at h0
      · split at h0
        · simp at h0
        · rename_i g1 g2
          obtain ⟨⟨a1, a2, a3, a4⟩, a5, a6, a7⟩ := a; obtain ⟨⟨b1, b2, b3, b4⟩, b5, b6, b7⟩ := b
          simp only [orL] at h0
          rcases icmp_cases a5 b5 with ⟨h1, e1⟩ | ⟨h1, e1⟩ | ⟨h1, e1⟩ <;> rw [e1] at h0
          · simp at h0
          · rcases icmp_cases a6 b6 with ⟨h2, e2⟩ | ⟨h2, e2⟩ | ⟨h2, e2⟩ <;> rw [e2] at h0
            · simp at h0
            · rcases icmp_cases a7 b7 with ⟨h3, e3⟩ | ⟨h3, e3⟩ | ⟨h3, e3⟩ <;> rw [e3] at h0
              · simp at h0
              · simp only [Event.mk.injEq, Key.mk.injEq] at *
                omega
              · simp at h0
            · simp at h0
          · simp at h0
    · simpa using h0
theorem icmp_is {a b : Event} {v : Int} (h : a.tcmp b = v) (w : World) : Calls Tryz.prog 178 #[.agg #[.int .i64 a.key.at_, .int .i64 a.key.src, .int .i64 a.key.sent, .int .i64 a.key.no, .int .i64 a.dst, .int .i64 a.kind, .int .i64 a.data], .agg #[.int .i64 b.key.at_, .int .i64 b.key.src, .int .i64 b.key.sent, .int .i64 b.key.no, .int .i64 b.dst, .int .i64 b.kind, .int .i64 b.data]] w fun e w' => e = .returned (.int .i64 v) ∧ Below w.heap.size w w' := by
  subst h; exact icmpare_calls a b w
def BsERel (L : List Asn) (l : List Event) (e : Event) (w : World) (i j : Value) (wr : World) : Prop :=
  ∃ p q : Nat, i = .int .i64 p ∧ j = .int .i64 q ∧ p ≤ q ∧ q ≤ l.length ∧ Hid (∀ (k : Nat) x, k < p → l[k]? = some x → evLt x e) ∧ Hid (∀ (k : Nat) x, q ≤ k → l[k]? = some x → ¬ evLt x e) ∧ St (fun _ => False) w wr L
theorem half_ltE {i j : Nat} (h : i < j) : i ≤ (i + j) / 2 ∧ (i + j) / 2 < j := by omega
def BsEPost (l : List Event) (e : Event) (w : World) (r : Ending) (w' : World) : Prop :=
  r = .returned (.tuple #[.int .i64 (plT l e), .bool (decide (e ∈ l))]) ∧ Below w.heap.size w w'
set_option maxRecDepth 100000 in
set_option maxHeartbeats 8000000 in
theorem bse_calls (v : Value) (l : List Event) (e : Event) (w : World) (F : Nat → Prop) (h : (Sl true Event.cells 7 v l).at_ w F) (hl : UpT l) (hn : l.length ≤ 65536) :
    Calls Tryz.prog 195 #[v, .agg #[.int .i64 e.key.at_, .int .i64 e.key.src, .int .i64 e.key.sent, .int .i64 e.key.no, .int .i64 e.dst, .int .i64 e.kind, .int .i64 e.data], .func (.func 178) #[] #[]] w (BsEPost l e w) := by
  have S : St (fun _ => False) w w [Sl true Event.cells 7 v l] := (St.init _ w).share (A := Sl true Event.cells 7 v l) rfl rfl h
  clear h
  obtain ⟨ad, c, rfl, _⟩ := (S.sl 0 rfl).elim fun _ h => h.form
  have hn2 : (l.length : Int) ≤ 65536 := by omega
  have HU := Lib.hid hl
  clear hl
  go_enter Tryz.func195, Tryz.ntmps195
  go_wp2_with first | ((with_reducible apply wps_boxa (E := 58) S); (case hx => rfl); clear S; intro be wz S)
  go_loopw [9, 10] (fun i j wr => BsERel _ l e w i j wr) (fun i j _ => (intOf j - intOf i).toNat)
  case atStart => exact ⟨0, l.length, rfl, rfl, Nat.zero_le _, Nat.le_refl _, Lib.hid (fun k x hk => by omega), Lib.hid (fun k x hk hx => by have := (List.getElem?_eq_some_iff.1 hx).1; omega), S⟩
  case round =>
    clear S
    obtain ⟨i, j, rfl, rfl, hij0, hjl, H1, H2, S⟩ := hrel
    by_cases hij : i < j
    · have hh := half_ltE hij
      obtain ⟨k, hk⟩ : ∃ k, k = (i + j) / 2 := ⟨_, rfl⟩
      rw [← hk] at hh
      obtain ⟨hh1, hh2⟩ := hh
      have hk2 : ((i : Int) + j) / 2 = k := by omega
      obtain ⟨x, hx⟩ : ∃ x, l[k]? = some x := ⟨_, List.getElem?_eq_getElem (by omega)⟩
      obtain ⟨R, o, rfl⟩ : ∃ R o, ad = some ⟨R, o, none⟩ := (S.sl 1 rfl).elim fun F h => h.head (by omega)
      have hkl : (k : Int) < l.length := by omega
      have hij2 : (i : Int) < j := by omega
      have HX := Lib.hid hx
      obtain ⟨cv, hcv⟩ : ∃ cv, x.tcmp e = cv := ⟨_, rfl⟩
      have HC := Lib.hid fun w => icmp_is hcv w
      have HT := Lib.hid (tcmp_neg x e)
      rw [hcv] at HT
      have Hk := Lib.hid hk
      have Hx := Lib.hid hx
      have Hcv := Lib.hid hcv
      clear hk hx hcv
      by_cases hlt : cv < 0
      · have hc1 : decide (cv < 0) = true := decide_eq_true hlt
        have HE : Hid (evLt x e) := by have := HT.out; rw [hc1] at this; exact Lib.hid (of_decide_eq_true this.symm)
        have H3 : Hid (∀ (q : Nat) y, q < k + 1 → l[q]? = some y → evLt y e) := Lib.hid fun q y hq hy => by
          have hy2 : q < l.length := (List.getElem?_eq_some_iff.1 hy).1
          rcases Nat.lt_or_eq_of_le (Nat.le_of_lt_succ hq) with hq | rfl
          · refine Classical.byContradiction fun hne => ?_
            have hp := (List.pairwise_iff_getElem.1 HU.out) q k hy2 (by omega) hq
            have e1 : l[q] = y := by rw [List.getElem?_eq_getElem hy2] at hy; exact Option.some.inj hy
            have e2 : l[k]'(by omega) = x := by have := HX.out; rw [List.getElem?_eq_getElem (by omega)] at this; exact Option.some.inj this
            rw [e1, e2] at hp
            rcases Classical.em (evLt e y) with h | h
            · exact hp (evLt_trans HE.out h)
            · have := evLt_total hne h; subst this; exact hp HE.out
          · rw [HX.out] at hy; cases hy; exact HE.out
        clear hlt
        go_wp2_with first | ((with_reducible apply wps_loada_el S 1 (hj := HX.out) (q := 0) (vs := [.int .i64 x.key.at_, .int .i64 x.key.src, .int .i64 x.key.sent, .int .i64 x.key.no, .int .i64 x.dst, .int .i64 x.kind, .int .i64 x.data]) (m := 7)); (case hx | hi => rfl); (case hn => omega); (case hm | hv => rfl); (case hT => decide +kernel)) | ((with_reducible apply wps_loada (T := 58) (k := 7) S 0); (case hx | hi => rfl); (case hk => exact Nat.le_of_ble_eq_true rfl); (case hT => decide +kernel)) | (go_at_call 178; have hcz := fun w => HC.out w; (with_reducible refine Calls.mono (hcz _) ?_); clear hcz; rintro e wz ⟨rfl, hE⟩; replace S := S.ext (Keep.of_below hE); clear hE) | ((with_reducible refine tot_done ?ht ?_); (case ht => kernel_rfl)) | ((with_reducible apply wps_text S); (case hm => kernel_rfl); (case hB => decide +kernel); clear S; intro wz S)
        go_roundw
        case rel => exact ⟨k + 1, j, by go_num, rfl, by omega, hjl, H3, H2, S⟩
        case measure => first | (simp [intOf]; done) | (simp [intOf]; omega)
      · have hc1 : decide (cv < 0) = false := decide_eq_false hlt
        have HE : Hid (¬ evLt x e) := by have := HT.out; rw [hc1] at this; exact Lib.hid (of_decide_eq_false this.symm)
        have H3 : Hid (∀ (q : Nat) y, k ≤ q → l[q]? = some y → ¬ evLt y e) := Lib.hid fun q y hq hy => by
          have hy2 : q < l.length := (List.getElem?_eq_some_iff.1 hy).1
          rcases Nat.lt_or_eq_of_le hq with hq | rfl
          · intro hye
            have hp := (List.pairwise_iff_getElem.1 HU.out) k q (by omega) hy2 hq
            have e1 : l[q] = y := by rw [List.getElem?_eq_getElem hy2] at hy; exact Option.some.inj hy
            have e2 : l[k]'(by omega) = x := by have := HX.out; rw [List.getElem?_eq_getElem (by omega)] at this; exact Option.some.inj this
            rw [e1, e2] at hp
            rcases Classical.em (evLt e x) with h | h
            · exact hp (evLt_trans hye h)
            · have := evLt_total HE.out h; subst this; exact hp hye
          · rw [HX.out] at hy; cases hy; exact HE.out
        clear hlt
        go_wp2_with first | ((with_reducible apply wps_loada_el S 1 (hj := HX.out) (q := 0) (vs := [.int .i64 x.key.at_, .int .i64 x.key.src, .int .i64 x.key.sent, .int .i64 x.key.no, .int .i64 x.dst, .int .i64 x.kind, .int .i64 x.data]) (m := 7)); (case hx | hi => rfl); (case hn => omega); (case hm | hv => rfl); (case hT => decide +kernel)) | ((with_reducible apply wps_loada (T := 58) (k := 7) S 0); (case hx | hi => rfl); (case hk => exact Nat.le_of_ble_eq_true rfl); (case hT => decide +kernel)) | (go_at_call 178; have hcz := fun w => HC.out w; (with_reducible refine Calls.mono (hcz _) ?_); clear hcz; rintro e wz ⟨rfl, hE⟩; replace S := S.ext (Keep.of_below hE); clear hE) | ((with_reducible refine tot_done ?ht ?_); (case ht => kernel_rfl)) | ((with_reducible apply wps_text S); (case hm => kernel_rfl); (case hB => decide +kernel); clear S; intro wz S)
        go_roundw
        case rel => exact ⟨i, k, rfl, rfl, by omega, by omega, H1, H3, S⟩
        case measure => first | (simp [intOf]; done) | (simp [intOf]; omega)
    · obtain rfl : i = j := by omega
      have hpl : i = plT l e := plT_at hjl H1.out H2.out
      have HM := Lib.hid (plT_mem (e := e) HU.out)
      rw [← hpl] at HM
      by_cases hlt : i < l.length
      · obtain ⟨x, hx⟩ : ∃ x, l[i]? = some x := ⟨_, List.getElem?_eq_getElem hlt⟩
        obtain ⟨R, o, rfl⟩ : ∃ R o, ad = some ⟨R, o, none⟩ := (S.sl 1 rfl).elim fun F h => h.head (by omega)
        have hkl : (i : Int) < l.length := by omega
        have HX := Lib.hid hx
        obtain ⟨cv, hcv⟩ : ∃ cv, x.tcmp e = cv := ⟨_, rfl⟩
        have HC := Lib.hid fun w => icmp_is hcv w
        have HT := Lib.hid (tcmp_zero x e)
        rw [hcv] at HT
        have HD : Hid ((cv == 0) = decide (e ∈ l)) := Lib.hid (by
          rw [HT.out, decide_eq_decide, HM.out, hx]; simp)
        have f1 : decide ((i : Int) < l.length) = true := decide_eq_true hkl
        have Hx := Lib.hid hx
        have Hcv := Lib.hid hcv
        have Hpl := Lib.hid hpl
        clear hx hcv hpl
        clear HT HM hkl
        go_wp2_with first | ((with_reducible apply wps_loada_el S 1 (hj := HX.out) (q := 0) (vs := [.int .i64 x.key.at_, .int .i64 x.key.src, .int .i64 x.key.sent, .int .i64 x.key.no, .int .i64 x.dst, .int .i64 x.kind, .int .i64 x.data]) (m := 7)); (case hx | hi => rfl); (case hn => omega); (case hm | hv => rfl); (case hT => decide +kernel)) | ((with_reducible apply wps_loada (T := 58) (k := 7) S 0); (case hx | hi => rfl); (case hk => exact Nat.le_of_ble_eq_true rfl); (case hT => decide +kernel)) | (go_at_call 178; have hcz := fun w => HC.out w; (with_reducible refine Calls.mono (hcz _) ?_); clear hcz; rintro e wz ⟨rfl, hE⟩; replace S := S.ext (Keep.of_below hE); clear hE) | ((with_reducible refine tot_done ?ht ?_); (case ht => kernel_rfl)) | ((with_reducible apply wps_text S); (case hm => kernel_rfl); (case hB => decide +kernel); clear S; intro wz S)
        (try simp only [Exit.inBlock, Exit.then]); refine bodyPost_ret (results2 rfl (res_tmp rfl) (res_tmp rfl)) rfl ?_
        refine ⟨?_, S.below⟩
        rw [HD.out, Hpl.out]
        rfl
      · obtain rfl : i = l.length := by omega
        have HD : Hid (decide (e ∈ l) = false) := Lib.hid (decide_eq_false fun hm => by
          have := HM.out.1 hm
          simp at this)
        have Hpl := Lib.hid hpl
        clear hpl
        have f1 : decide ((l.length : Int) < l.length) = false := decide_eq_false (by omega)
        clear HM hlt hjl hij
        go_wp2_with first | ((with_reducible refine tot_done ?ht ?_); (case ht => kernel_rfl)) | ((with_reducible apply wps_text S); (case hm => kernel_rfl); (case hB => decide +kernel); clear S; intro wz S)
        (try simp only [Exit.inBlock, Exit.then]); refine bodyPost_ret (results2 rfl (res_tmp rfl) (res_tmp rfl)) rfl ?_
        refine ⟨?_, S.below⟩
        rw [HD.out, ← Hpl.out]
        rfl
end Go.Proofs.YtmjljoaakdocaaaGreatDoor
/- Stable sorting, plain: events with their places, sorted by keys, and by places where keys are the same. -/
namespace Go.Proofs.YtmjljoaakdocaaaGreatDoor

abbrev TE := Event × Nat
def tless (x y : TE) : Bool := x.1.key.lt y.1.key
def slt (x y : TE) : Prop := tless x y = true ∨ (tless y x = false ∧ x.2 < y.2)
abbrev Srt (l : List TE) : Prop := l.Pairwise slt
theorem slt_trans {x y z : TE} (h : slt x y) (k : slt y z) : slt x z := by
  simp only [slt, tless, Bool.eq_false_iff, ne_eq, Key.lt_iff] at *; omega
theorem slt_irrefl (x : TE) : ¬ slt x x := by
  simp only [slt, tless, Bool.eq_false_iff, ne_eq, Key.lt_iff]; omega
theorem slt_asymm {x y : TE} (h : slt x y) : ¬ slt y x := fun k => slt_irrefl _ (slt_trans h k)
theorem slt_yes {x y : TE} (h : tless x y = true) : slt x y := .inl h
theorem slt_no {x y : TE} (h : tless y x = false) (k : x.2 < y.2) : slt x y := .inr ⟨h, k⟩
theorem tless_down {x y z : TE} (h : slt x y) (k : tless y z = true) : tless x z = true := by
  simp only [slt, tless, Bool.eq_false_iff, ne_eq, Key.lt_iff] at *; omega
theorem tless_up {x y z : TE} (h : slt x y) (k : tless z x = true) : tless z y = true := by
  simp only [slt, tless, Bool.eq_false_iff, ne_eq, Key.lt_iff] at *; omega
theorem srt_uniq : ∀ {l m : List TE}, Srt l → Srt m → l.Perm m → l = m
  | [], m, _, _, hp => by simpa using hp
  | a :: l, [], _, _, hp => by simpa using hp.length_eq
  | a :: l, b :: m, hl, hm, hp => by
    have hl' := List.pairwise_cons.1 hl
    have hm' := List.pairwise_cons.1 hm
    have hab : a = b := by
      have h1 : a ∈ b :: m := hp.mem_iff.1 (by simp)
      have h2 : b ∈ a :: l := hp.mem_iff.2 (by simp)
      rcases List.mem_cons.1 h1 with h | h
      · exact h
      · rcases List.mem_cons.1 h2 with h3 | h3
        · exact h3.symm
        · exact absurd (hl'.1 b h3) (slt_asymm (hm'.1 a h))
    subst hab
    rw [srt_uniq hl'.2 hm'.2 (List.Perm.cons_inv hp)]

structure BS (f : Nat → Bool) (lo hi i j : Nat) : Prop where
  le1 : lo ≤ i
  le2 : i ≤ j
  le3 : j ≤ hi
  yes : ∀ k, lo ≤ k → k < i → f k = true
  no : ∀ k, j ≤ k → k < hi → f k = false
def Falls (f : Nat → Bool) (lo hi : Nat) : Prop := ∀ k k', lo ≤ k → k ≤ k' → k' < hi → f k' = true → f k = true
theorem BS.start {f : Nat → Bool} {lo hi : Nat} (h : lo ≤ hi) : BS f lo hi lo hi := ⟨Nat.le_refl _, h, Nat.le_refl _, fun k h1 h2 => by omega, fun k h1 h2 => by omega⟩
theorem BS.up {f : Nat → Bool} {lo hi i j : Nat} (h : BS f lo hi i j) (hf : Falls f lo hi) {k : Nat} (h1 : i ≤ k) (h2 : k < j) (hk : f k = true) : BS f lo hi (k + 1) j :=
  ⟨by have := h.le1; omega, by omega, h.le3, fun q hq hq' => hf q k hq (by omega) (by have := h.le3; omega) hk, h.no⟩
theorem BS.down {f : Nat → Bool} {lo hi i j : Nat} (h : BS f lo hi i j) (hf : Falls f lo hi) {k : Nat} (h1 : i ≤ k) (h2 : k < j) (hk : f k = false) : BS f lo hi i k :=
  ⟨h.le1, h1, by have := h.le3; omega, h.yes, fun q hq hq' => by
    cases hv : f q with
    | false => rfl
    | true => rw [hf k q (by have := h.le1; omega) hq hq' hv] at hk; cases hk⟩

def Merged (p l r q ys : List TE) : Prop := ∃ s : List TE, s.Perm (l ++ r) ∧ Srt s ∧ ys = p ++ s ++ q
theorem srt_get {l : List TE} (h : Srt l) {i j : Nat} {x y : TE} (hij : i < j) (hx : l[i]? = some x) (hy : l[j]? = some y) : slt x y := by
  obtain ⟨h1, rfl⟩ := List.getElem?_eq_some_iff.1 hx
  obtain ⟨h2, rfl⟩ := List.getElem?_eq_some_iff.1 hy
  exact List.pairwise_iff_getElem.1 h i j h1 h2 hij
theorem tless_run {l : List TE} (h : Srt l) {i j : Nat} {x y z : TE} (hij : i ≤ j) (hx : l[i]? = some x) (hy : l[j]? = some y) (hz : tless y z = true) : tless x z = true := by
  by_cases e : i = j
  · subst e; rw [hx] at hy; cases hy; exact hz
  · exact tless_down (srt_get h (by omega) hx hy) hz
theorem tless_run' {l : List TE} (h : Srt l) {i j : Nat} {x y z : TE} (hij : i ≤ j) (hx : l[i]? = some x) (hy : l[j]? = some y) (hz : tless z x = true) : tless z y = true := by
  by_cases e : i = j
  · subst e; rw [hx] at hy; cases hy; exact hz
  · exact tless_up (srt_get h (by omega) hx hy) hz
def att (xs : List TE) (k : Nat) : TE := xs[k]?.getD (⟨⟨0, 0, 0, 0⟩, 0, 0, 0⟩, 0)
theorem some_att {xs : List TE} {k : Nat} (h : k < xs.length) : xs[k]? = some (att xs k) := by simp [att, h]
section
variable {p l r q xs : List TE} {a m b : Nat}
structure Parts (p l r q xs : List TE) (a m b : Nat) : Prop where
  eq : xs = p ++ l ++ r ++ q
  ha : a = p.length
  hm : m = a + l.length
  hb : b = m + r.length
theorem Parts.left (h : Parts p l r q xs a m b) {k : Nat} (hk : k < l.length) : xs[a + k]? = l[k]? := by
  obtain ⟨rfl, rfl, rfl, rfl⟩ := h
  rw [List.append_assoc, List.append_assoc, List.getElem?_append_right (by omega), List.getElem?_append_left (by omega)]
  congr 1; omega
theorem Parts.right (h : Parts p l r q xs a m b) {k : Nat} (hk : k < r.length) : xs[m + k]? = r[k]? := by
  obtain ⟨rfl, rfl, rfl, rfl⟩ := h
  rw [List.append_assoc (p ++ l), List.getElem?_append_right (by simp), List.getElem?_append_left (by simp; omega)]
  congr 1; simp
theorem Parts.len (h : Parts p l r q xs a m b) : b + q.length = xs.length := by obtain ⟨rfl, rfl, rfl, rfl⟩ := h; simp; omega
theorem Parts.l_at (h : Parts p l r q xs a m b) {k : Nat} (h1 : a ≤ k) (h2 : k < m) : l[k - a]? = some (att xs k) := by
  have hm := h.hm
  rw [← h.left (by omega), show a + (k - a) = k by omega]
  exact some_att (by have := h.len; have := h.hb; omega)
theorem Parts.r_at (h : Parts p l r q xs a m b) {k : Nat} (h1 : m ≤ k) (h2 : k < b) : r[k - m]? = some (att xs k) := by
  have hb := h.hb
  rw [← h.right (by omega), show m + (k - m) = k by omega]
  exact some_att (by have := h.len; omega)
theorem falls1 (h : Parts p l r q xs a m b) (hr : Srt r) (z : TE) : Falls (fun k => tless (att xs k) z) m b := fun k k' h1 h2 h3 hv =>
  tless_run hr (i := k - m) (j := k' - m) (by omega) (h.r_at h1 (by omega)) (h.r_at (by omega) h3) hv
theorem falls2 (h : Parts p l r q xs a m b) (hl : Srt l) (z : TE) : Falls (fun k => !tless z (att xs k)) a m := fun k k' h1 h2 h3 hv => by
  simp only [Bool.not_eq_true'] at *
  cases hk : tless z (att xs k) with
  | false => rfl
  | true => rw [tless_run' hl (i := k - a) (j := k' - a) (by omega) (h.l_at h1 (by omega)) (h.l_at (by omega) h3) hk] at hv; cases hv
theorem falls3 (h : Parts p l r q xs a m b) (hl : Srt l) (hr : Srt r) {s e n : Nat} (hs : a ≤ s) (he : e ≤ m) (h1 : ∀ c, s ≤ c → c < e → m ≤ n - c ∧ n - c < b ∧ c ≤ n) : Falls (fun k => !tless (att xs (n - k)) (att xs k)) s e := fun k k' g1 g2 g3 hv => by
  simp only [Bool.not_eq_true'] at *
  cases hk : tless (att xs (n - k)) (att xs k) with
  | false => rfl
  | true =>
    have c1 := h1 k g1 (by omega)
    have c2 := h1 k' (by omega) g3
    have e1 := tless_run' hl (i := k - a) (j := k' - a) (by omega) (h.l_at (by omega) (by omega)) (h.l_at (by omega) (by omega)) hk
    have e2 := tless_run hr (i := n - k' - m) (j := n - k - m) (by omega) (h.r_at c2.1 c2.2.1) (h.r_at c1.1 c1.2.1) e1
    rw [e2] at hv; cases hv
theorem merge1 {x : TE} {i : Nat} (h : Parts p [x] r q xs a m b) (hr : Srt r) (ht : ∀ y ∈ r, x.2 < y.2) (hB : BS (fun k => tless (att xs k) x) m b i i) : Merged p [x] r q (p ++ r.take (i - m) ++ [x] ++ r.drop (i - m) ++ q) := by
  refine ⟨r.take (i - m) ++ [x] ++ r.drop (i - m), ?_, ?_, by simp⟩
  · have e : r.take (i - m) ++ r.drop (i - m) = r := List.take_append_drop _ _
    rw [List.append_assoc]
    refine (List.perm_append_comm_assoc _ _ _).trans ?_
    rw [e]
  · have y1 : ∀ z ∈ r.take (i - m), slt z x := fun z hz => by
      obtain ⟨k, hk, rfl⟩ := List.mem_take_iff_getElem.1 hz
      have := hB.yes (m + k) (by omega) (by omega)
      have hb := h.hb
      have g := h.r_at (k := m + k) (by omega) (by omega)
      rw [show m + k - m = k by omega, List.getElem?_eq_getElem (by omega)] at g
      rw [Option.some.inj g]; exact slt_yes this
    have y2 : ∀ z ∈ r.drop (i - m), slt x z := fun z hz => by
      obtain ⟨k, hk, rfl⟩ := List.mem_drop_iff_getElem.1 hz
      have hb := h.hb
      have := hB.no (i + k) (by omega) (by have := hB.le1; omega)
      have g := h.r_at (k := i + k) (by have := hB.le1; omega) (by have := hB.le1; omega)
      rw [show i + k - m = (i - m) + k by have := hB.le1; omega, List.getElem?_eq_getElem (by omega)] at g
      refine slt_no ?_ (ht _ (List.getElem_mem _))
      rw [Option.some.inj g]; exact this
    rw [List.append_assoc]
    refine List.pairwise_append.2 ⟨hr.sublist (List.take_sublist _ _), List.pairwise_cons.2 ⟨y2, hr.sublist (List.drop_sublist _ _)⟩, fun u hu v hv => ?_⟩
    rcases List.mem_cons.1 hv with rfl | hv
    · exact y1 u hu
    · exact slt_trans (y1 u hu) (y2 v hv)
theorem merge2 {y : TE} {i : Nat} (h : Parts p l [y] q xs a m b) (hl : Srt l) (ht : ∀ x ∈ l, x.2 < y.2) (hB : BS (fun k => !tless y (att xs k)) a m i i) : Merged p l [y] q (p ++ l.take (i - a) ++ [y] ++ l.drop (i - a) ++ q) := by
  refine ⟨l.take (i - a) ++ [y] ++ l.drop (i - a), ?_, ?_, by simp⟩
  · rw [List.append_assoc]
    refine (List.perm_append_comm_assoc _ _ _).trans ?_
    rw [List.take_append_drop]
    exact List.perm_append_comm
  · have hm := h.hm
    have y1 : ∀ z ∈ l.take (i - a), slt z y := fun z hz => by
      obtain ⟨k, hk, rfl⟩ := List.mem_take_iff_getElem.1 hz
      have := hB.yes (a + k) (by omega) (by omega)
      have g := h.l_at (k := a + k) (by omega) (by omega)
      rw [show a + k - a = k by omega, List.getElem?_eq_getElem (by omega)] at g
      refine slt_no ?_ (ht _ (List.getElem_mem _))
      rw [Option.some.inj g]; simpa using this
    have y2 : ∀ z ∈ l.drop (i - a), slt y z := fun z hz => by
      obtain ⟨k, hk, rfl⟩ := List.mem_drop_iff_getElem.1 hz
      have := hB.no (i + k) (by omega) (by have := hB.le1; omega)
      have g := h.l_at (k := i + k) (by have := hB.le1; omega) (by have := hB.le1; omega)
      rw [show i + k - a = (i - a) + k by have := hB.le1; omega, List.getElem?_eq_getElem (by omega)] at g
      rw [Option.some.inj g]; exact slt_yes (by simpa using this)
    rw [List.append_assoc]
    refine List.pairwise_append.2 ⟨hl.sublist (List.take_sublist _ _), List.pairwise_cons.2 ⟨y2, hl.sublist (List.drop_sublist _ _)⟩, fun u hu v hv => ?_⟩
    rcases List.mem_cons.1 hv with rfl | hv
    · exact y1 u hu
    · exact slt_trans (y1 u hu) (y2 v hv)
structure Cut (l r l1 l2 r1 r2 : List TE) : Prop where
  el : l = l1 ++ l2
  er : r = r1 ++ r2
  h1 : ∀ x ∈ l1, ∀ y ∈ r2, slt x y
  h2 : ∀ y ∈ r1, ∀ x ∈ l2, slt y x
theorem cut3 (h : Parts p l r q xs a m b) (hl : Srt l) (hr : Srt r) (ht : ∀ x ∈ l, ∀ y ∈ r, x.2 < y.2) {s e c mid : Nat} (hmid : mid = (a + b) / 2) (hse : (mid < m ∧ s + b = mid + m ∧ e = mid) ∨ (m ≤ mid ∧ s = a ∧ e = m))
    (hB : BS (fun k => !tless (att xs (mid + m - 1 - k)) (att xs k)) s e c c) : Cut l r (l.take (c - a)) (l.drop (c - a)) (r.take (mid - c)) (r.drop (mid - c)) := by
  have hm := h.hm
  have hb := h.hb
  have b1 := hB.le1
  have b2 := hB.le3
  refine ⟨(List.take_append_drop _ _).symm, (List.take_append_drop _ _).symm, fun x hx y hy => ?_, fun y hy x hx => ?_⟩
  · obtain ⟨k, hk, rfl⟩ := List.mem_take_iff_getElem.1 hx
    obtain ⟨k', hk', rfl⟩ := List.mem_drop_iff_getElem.1 hy
    by_cases hcs : c = s
    · omega
    · have hv := hB.no
      have := hB.yes (c - 1) (by omega) (by omega)
      simp only [Bool.not_eq_true'] at this
      have gl := h.l_at (k := c - 1) (by omega) (by omega)
      have gr := h.r_at (k := mid + m - 1 - (c - 1)) (by omega) (by omega)
      have e1 : tless (att xs (mid + m - 1 - (c - 1))) l[k] = false := by
        cases hz : tless (att xs (mid + m - 1 - (c - 1))) l[k] with
        | false => rfl
        | true => rw [tless_run' hl (i := k) (j := c - 1 - a) (by omega) (List.getElem?_eq_getElem (by omega)) gl hz] at this; cases this
      refine slt_no ?_ (ht _ (List.getElem_mem _) _ (List.getElem_mem _))
      cases hz : tless r[mid - c + k'] l[k] with
      | false => rfl
      | true => rw [tless_run hr (i := mid + m - 1 - (c - 1) - m) (j := mid - c + k') (by omega) gr (List.getElem?_eq_getElem (by omega)) hz] at e1; cases e1
  · obtain ⟨k, hk, rfl⟩ := List.mem_take_iff_getElem.1 hy
    obtain ⟨k', hk', rfl⟩ := List.mem_drop_iff_getElem.1 hx
    by_cases hce : c = e
    · omega
    · have := hB.no c (by omega) (by omega)
      simp only [Bool.not_eq_false'] at this
      have gl := h.l_at (k := c) (by omega) (by omega)
      have gr := h.r_at (k := mid + m - 1 - c) (by omega) (by omega)
      refine slt_yes ?_
      have e1 := tless_run hr (i := k) (j := mid + m - 1 - c - m) (by omega) (List.getElem?_eq_getElem (by omega)) gr this
      exact tless_run' hl (i := c - a) (j := c - a + k') (by omega) gl (List.getElem?_eq_getElem (by omega)) e1
end
theorem merged_cut {p l r q l1 l2 r1 r2 s1 s2 : List TE} (hl : Srt l) (hr : Srt r) (h : Cut l r l1 l2 r1 r2) (h1 : s1.Perm (l1 ++ r1)) (g1 : Srt s1) (h2 : s2.Perm (l2 ++ r2)) (g2 : Srt s2) : Merged p l r q (p ++ s1 ++ s2 ++ q) := by
  obtain ⟨rfl, rfl, k1, k2⟩ := h
  have hl' := List.pairwise_append.1 hl
  have hr' := List.pairwise_append.1 hr
  refine ⟨s1 ++ s2, ?_, List.pairwise_append.2 ⟨g1, g2, fun x hx y hy => ?_⟩, by simp⟩
  · refine (h1.append h2).trans ?_
    rw [List.append_assoc, List.append_assoc]
    refine List.Perm.append_left _ ?_
    rw [← List.append_assoc, ← List.append_assoc]
    exact (List.perm_append_comm).append_right _
  · rcases List.mem_append.1 (h1.mem_iff.1 hx) with hx | hx <;> rcases List.mem_append.1 (h2.mem_iff.1 hy) with hy | hy
    · exact hl'.2.2 x hx y hy
    · exact k1 x hx y hy
    · exact k2 x hx y hy
    · exact hr'.2.2 x hx y hy
end Go.Proofs.YtmjljoaakdocaaaGreatDoor

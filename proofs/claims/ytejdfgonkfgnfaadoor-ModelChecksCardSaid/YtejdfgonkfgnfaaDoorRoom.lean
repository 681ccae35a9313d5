import Derived.Test.YtejdfgonkfgnfaaDoorNest
import Derived.Test.YtejdfgonkfgnfaaDoorAny
/- Slices that are owned and written, of which only their room is known; and several owned slices at once. Over any program. -/
namespace Go.Proofs.YtejdfgonkfgnfaaDoor.Mem
open Go Go.RowKit Reg

/-- Each of these has its room in blocks of its own. -/
def RoomAt (k : Nat) (w : World) (F : Nat → Prop) (vs : List Value) : Prop :=
  ∀ (i : Nat) v, vs[i]? = some v → ∃ ad n c, v = .slice ad n c ∧ (0 < n → ∃ R cs t, ad = some ⟨R, 0, none⟩ ∧ F R ∧ w.heap[R]? = some (.cells cs t (0, 0)) ∧ n * k ≤ cs.size)
def Room (k : Nat) (vs : List Value) : Asn where
  sh := false
  at_ w F := RoomAt k w F vs ∧ ∀ b, F b → b < w.heap.size
  loc h hb := ⟨fun i v hi => by
    obtain ⟨ad, n, c, e, h2⟩ := h.1 i v hi
    refine ⟨ad, n, c, e, fun h0 => ?_⟩
    obtain ⟨R, cs, t, e1, h3, h4, h5⟩ := h2 h0
    exact ⟨R, cs, t, e1, h3, (hb R h3).trans h4, h5⟩, lt_loc h.2 hb⟩
  lt h := h.2
/-- Several slices that are owned. -/
def Ows {α : Type} (E : TypeId) (enc : α → List Value) (k : Nat) (vs : List Value) (xss : List (List α)) : Asn where
  sh := false
  at_ w F := (vs.length = xss.length ∧ ∀ (i : Nat) v xs, vs[i]? = some v → xss[i]? = some xs → ∃ Fi, (Own E enc k v xs).at_ w Fi ∧ ∀ b, Fi b → F b) ∧ ∀ b, F b → b < w.heap.size
  loc h hb := ⟨⟨h.1.1, fun i v xs hv hx => by
    obtain ⟨Fi, h1, h2⟩ := h.1.2 i v xs hv hx
    exact ⟨Fi, (Own _ _ _ v xs).loc h1 (fun b hb' => hb b (h2 b hb')), h2⟩⟩, lt_loc h.2 hb⟩
  lt h := h.2
section
variable {α : Type} {E : TypeId} {enc : α → List Value} {k : Nat} {G : Nat → Prop} {w0 w : World} {L : List Asn}
theorem St.owsNil (S : St G w0 w L) (E : TypeId) (enc : α → List Value) (k : Nat) : St G w0 w (Ows E enc k [] ([] : List (List α)) :: L) :=
  S.grow (F := fun _ => False) (Keep.refl _ _) ⟨⟨rfl, fun i v xs h => by simp at h⟩, fun _ h => h.elim⟩ (fun _ h => h.elim)
theorem St.owsSnoc {vs : List Value} {xss : List (List α)} {v : Value} {xs : List α} (S : St G w0 w (Own E enc k v xs :: Ows E enc k vs xss :: L)) : St G w0 w (Ows E enc k (vs ++ [v]) (xss ++ [xs]) :: L) :=
  S.merge _ rfl rfl rfl fun F F' h h' => by
    refine ⟨⟨by simp [h'.1.1], fun j u ys hu hy => ?_⟩, fun b hb => hb.elim ((Own E enc k v xs).lt h b) (h'.2 b)⟩
    by_cases hj : j < vs.length
    · rw [List.getElem?_append_left hj] at hu
      rw [List.getElem?_append_left (by rw [← h'.1.1]; exact hj)] at hy
      obtain ⟨Fi, h1, h2⟩ := h'.1.2 j u ys hu hy
      exact ⟨Fi, h1, fun b hb => .inr (h2 b hb)⟩
    · have hjl := (List.getElem?_eq_some_iff.1 hu).1
      simp at hjl
      obtain rfl : j = vs.length := by omega
      rw [List.getElem?_append_right (Nat.le_refl _)] at hu
      rw [List.getElem?_append_right (by rw [h'.1.1]; exact Nat.le_refl _)] at hy
      simp [h'.1.1] at hu hy
      subst hu; subst hy
      exact ⟨F, h, fun b hb => .inl hb⟩
theorem own_room (_ : ∀ x, (enc x).length = k) {v : Value} {xs : List α} {F : Nat → Prop} (h : (Own E enc k v xs).at_ w F) : ∃ ad n c, v = .slice ad n c ∧ (0 < n → ∃ R cs t, ad = some ⟨R, 0, none⟩ ∧ F R ∧ w.heap[R]? = some (.cells cs t (0, 0)) ∧ n * k ≤ cs.size) := by
  rcases h.1.2 with ⟨rfl, h0⟩ | ⟨g, cap, cur, rfl, hb, hg, h1, h2, h3, h4⟩
  · exact ⟨none, 0, 0, rfl, fun h => absurd h (by omega)⟩
  · exact ⟨_, _, _, rfl, fun _ => ⟨g, cur, E, rfl, (h.2 g).2 rfl, hg, by rw [h3]; exact Nat.mul_le_mul_right _ h1⟩⟩
theorem St.room1 (S : St G w0 w L) (i : Nat) {v : Value} {xs : List α} (hk : ∀ x, (enc x).length = k) (hi : L[i]? = some (Own E enc k v xs)) : St G w0 w (L.set i (Room k [v])) :=
  S.weak hi (fun _ => rfl) fun F h => ⟨F, fun _ hb => hb, fun j u hu => by
    cases j with
    | zero => simp at hu; subst hu; exact own_room hk h
    | succ j => simp at hu, fun b hb => (Own E enc k v xs).lt h b hb⟩
theorem St.rooms (S : St G w0 w L) (i : Nat) {vs : List Value} {xss : List (List α)} (hk : ∀ x, (enc x).length = k) (hi : L[i]? = some (Ows E enc k vs xss)) : St G w0 w (L.set i (Room k vs)) :=
  S.weak hi (fun _ => rfl) fun F h => ⟨F, fun _ hb => hb, fun j u hu => by
    obtain ⟨xs, hx⟩ : ∃ xs, xss[j]? = some xs := ⟨_, List.getElem?_eq_getElem (by rw [← h.1.1]; exact (List.getElem?_eq_some_iff.1 hu).1)⟩
    obtain ⟨Fi, h1, h2⟩ := h.1.2 j u xs hu hx
    obtain ⟨ad, n, c, e, h3⟩ := own_room hk h1
    refine ⟨ad, n, c, e, fun h0 => ?_⟩
    obtain ⟨R, cs, t, e1, h4, h5, h6⟩ := h3 h0
    exact ⟨R, cs, t, e1, h2 R h4, h5, h6⟩, h.2⟩
theorem ows_sls (hk : ∀ x, (enc x).length = k) {vs : List Value} {xss : List (List α)} {F : Nat → Prop} (h : (Ows E enc k vs xss).at_ w F) : (Sls true enc k vs xss).at_ w F :=
  ⟨⟨h.1.1, fun i v xs hv hx => let ⟨_, h1, h2⟩ := h.1.2 i v xs hv hx; (own_sl (sh := true) hk h1).1.mono h2⟩, h.2⟩
/-- What a slice with its room looks like. -/
theorem St.roomForm {vs : List Value} (S : St G w0 w L) (i : Nat) (hi : L[i]? = some (Room k vs)) {q : Nat} {v : Value} (hv : vs[q]? = some v) : ∃ ad n c, v = .slice ad n c ∧ (0 < n → ∃ R, ad = some ⟨R, 0, none⟩) := by
  obtain ⟨F, h⟩ := S.get hi
  obtain ⟨ad, n, c, e, h2⟩ := h.1 q v hv
  exact ⟨ad, n, c, e, fun h0 => let ⟨R, _, _, e1, _⟩ := h2 h0; ⟨R, e1⟩⟩
variable {P : Program} {ops : Array Oper} {rest : List Oper} {a : Act} {Q : Exit → Act → World → Prop} {d : Option Tmp} {tt : TypeId} {p : String} {af : Array Edge} {gd : Option (Nat × Bool)} {x y : Operand}
theorem wps_store_room {vs : List Value} (S : St G w0 w L) (i : Nat) (hi : L[i]? = some (Room k vs)) {q R n c nn j : Nat} (hv : vs[q]? = some (.slice (some ⟨R, 0, none⟩) n c)) (us : List Value) {T : TypeId}
    (hx : a.eval x = .pointer (some ⟨R, nn, none⟩)) (hn : nn = j * k) (hj : j < n) (hy : a.eval y = .agg us.toArray) (hT : aggB P T k = true) (hm : us.length = k) (h1 : us.all Value.oneCell' = true)
    (next : ∀ w', St G w0 w' L → wpList P ops Q rest (a.put d undef) w') (hgd : gOk gd ops a = true := by with_unfolding_all rfl) :
    wpList P ops Q ({ dst := d, op := .store T x y, type := tt, pos := p, after := af, guard := gd } :: rest) a w := by
  obtain ⟨F0, hF0⟩ := S.get hi
  obtain ⟨ad, n', c', e, h2⟩ := hF0.1 q _ hv
  cases e
  obtain ⟨R', cs, t, e1, hFR, hh, hs⟩ := h2 (by omega)
  cases e1
  subst hn
  have hjk : j * k + k ≤ n * k := by have := Nat.mul_le_mul_right k (show j + 1 ≤ n from hj); rw [Nat.add_mul, Nat.one_mul] at this; exact this
  have hfit : j * k + us.length ≤ cs.size := by rw [hm]; omega
  refine wpList_store_agg (hgd := hgd) us (by rw [hm]; exact hT) hx hy hh hfit (by simpa using h1) fun w' hb hK => next w' ?_
  have hset : L.set i (Room k vs) = L := by
    obtain ⟨h1, h2⟩ := List.getElem?_eq_some_iff.1 hi
    rw [← h2, List.set_getElem_self]
  rw [← hset]
  refine S.step (w' := w') (A' := Room k vs) hi rfl fun F hF => ?_
  · obtain ⟨ad2, n2, c2, e2, h3⟩ := hF.1 q _ hv
    cases e2
    obtain ⟨R2, cs2, t2, e3, hFR2, hh2, hs2⟩ := h3 (by omega)
    cases e3
    refine ⟨F, hK.mono (fun b _ hn hb => hn (hb ▸ hFR2)), ⟨fun i v hi => ?_, fun b hb' => Nat.lt_of_lt_of_le (hF.2 b hb') hK.size⟩, fun _ h => .inl h⟩
    obtain ⟨ad, n3, c3, e, h4⟩ := hF.1 i v hi
    refine ⟨ad, n3, c3, e, fun h0 => ?_⟩
    obtain ⟨R3, cs3, t3, e4, h5, h6, h7⟩ := h4 h0
    by_cases hR : R3 = R
    · subst hR
      rw [hh] at h6
      cases h6
      exact ⟨R3, _, t, e4, h5, hb, by rw [splice_size hfit]; exact h7⟩
    · exact ⟨R3, cs3, t3, e4, h5, (hK.block R3 (hF.2 R3 h5) hR).trans h6, h7⟩
end
end Go.Proofs.YtejdfgonkfgnfaaDoor.Mem

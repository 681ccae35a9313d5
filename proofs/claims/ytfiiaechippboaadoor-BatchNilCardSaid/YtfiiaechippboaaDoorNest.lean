import Derived.Test.YtfiiaechippboaaDoorOps2
/- Several slices at once, and things that are shared read in more than one way. Over any program. -/
namespace Go.Proofs.YtfiiaechippboaaDoor.Mem
open Go Go.RowKit

section
variable {G : Nat → Prop} {w0 w w' : World} {L : List Asn} {A A' B C : Asn} {i : Nat}
/-- What is shared may be read in one way more. -/
theorem St.also (S : St G w0 w L) (i : Nat) (hi : L[i]? = some A) (hs : A.sh = true) (hs' : A'.sh = true) (h : ∀ F, A.at_ w F → ∃ F', (∀ b, F' b → F b) ∧ A'.at_ w F') : St G w0 w (A' :: L) := by
  obtain ⟨Fs, hf, hd⟩ := S.ex
  obtain ⟨F', hF', hA'⟩ := h _ (hf i A hi).1
  refine ⟨S.keep, fun j => match j with | 0 => F' | j + 1 => Fs j, fun j B hj => ?_, fun j k B C hjk hj hk => ?_⟩
  · cases j with
    | zero => simp at hj; subst hj; exact ⟨hA', fun e => by rw [hs'] at e; cases e⟩
    | succ j => simp at hj; exact hf j B hj
  · cases k with
    | zero => omega
    | succ k =>
      simp at hk
      cases j with
      | zero =>
        simp at hj; subst hj
        rcases Nat.lt_trichotomy i k with h1 | h1 | h1
        · rcases hd i k A C h1 hi hk with ⟨_, e⟩ | e
          · exact .inl ⟨hs', e⟩
          · exact .inr fun b hb => e b (hF' b hb)
        · subst h1; rw [hi] at hk; cases hk; exact .inl ⟨hs', hs⟩
        · rcases hd k i C A h1 hk hi with ⟨e, _⟩ | e
          · exact .inl ⟨hs', e⟩
          · exact .inr fun b hb hb' => e b hb' (hF' b hb)
      | succ j => simp at hj; exact hd j k B C (by omega) hj hk
/-- Two things that are owned are one. -/
theorem St.merge (S : St G w0 w (A :: B :: L)) (C : Asn) (hA : A.sh = false) (hB : B.sh = false) (_ : C.sh = false) (h : ∀ F F', A.at_ w F → B.at_ w F' → C.at_ w (fun b => F b ∨ F' b)) : St G w0 w (C :: L) := by
  obtain ⟨Fs, hf, hd⟩ := S.ex
  have a := hf 0 A rfl
  have b := hf 1 B rfl
  refine ⟨S.keep, fun j => match j with | 0 => fun x => Fs 0 x ∨ Fs 1 x | j + 1 => Fs (j + 2), fun j D hj => ?_, fun j k D E hjk hj hk => ?_⟩
  · cases j with
    | zero => simp at hj; subst hj; exact ⟨h _ _ a.1 b.1, fun _ x hx => hx.elim (a.2 hA x) (b.2 hB x)⟩
    | succ j => simp at hj; exact hf (j + 2) D (by simpa using hj)
  · cases k with
    | zero => omega
    | succ k =>
      simp at hk
      cases j with
      | zero =>
        simp at hj; subst hj
        refine .inr fun x hx hx' => ?_
        rcases hx with hx | hx
        · rcases hd 0 (k + 2) A E (by omega) rfl (by simpa using hk) with ⟨e, _⟩ | e
          · rw [hA] at e; cases e
          · exact e x hx hx'
        · rcases hd 1 (k + 2) B E (by omega) rfl (by simpa using hk) with ⟨e, _⟩ | e
          · rw [hB] at e; cases e
          · exact e x hx hx'
      | succ j => simp at hj; exact hd (j + 2) (k + 2) D E (by omega) (by simpa using hj) (by simpa using hk)
theorem SlAt.mono {α : Type} {enc : α → List Value} {k : Nat} {F F' : Nat → Prop} {v : Value} {xs : List α} (h : SlAt enc k w F v xs) (hF : ∀ b, F b → F' b) : SlAt enc k w F' v xs := by
  obtain ⟨a, c, e, h1, h2, h3⟩ := h
  exact ⟨a, c, e, h1, h2, fun i x hi => let ⟨R, o, e1, hR, hc⟩ := h3 i x hi; ⟨R, o, e1, hF R hR, hc⟩⟩
theorem SlAt.loc {α : Type} {enc : α → List Value} {k : Nat} {F : Nat → Prop} {v : Value} {xs : List α} (h : SlAt enc k w F v xs) (hb : ∀ b, F b → w'.heap[b]? = w.heap[b]?) : SlAt enc k w' F v xs := by
  obtain ⟨a, c, e, h1, h2, h3⟩ := h
  refine ⟨a, c, e, h1, h2, fun i x hi => ?_⟩
  obtain ⟨R, o, e1, hR, hc⟩ := h3 i x hi
  exact ⟨R, o, e1, hR, fun j u hj => (World.cell?_of_block (w := w) (a := ⟨R, o + i * k + j, none⟩) (hb R hR)).trans (hc j u hj)⟩
theorem lt_loc {F : Nat → Prop} (h : ∀ b, F b → b < w.heap.size) (hb : ∀ b, F b → w'.heap[b]? = w.heap[b]?) : ∀ b, F b → b < w'.heap.size := fun b hF => by
  have := hb b hF
  rw [Array.getElem?_eq_getElem (h b hF)] at this
  exact (Array.getElem?_eq_some_iff.1 this).1
/-- Each of these reads as its list. -/
def SlsAt {α : Type} (enc : α → List Value) (k : Nat) (w : World) (F : Nat → Prop) (vs : List Value) (xss : List (List α)) : Prop :=
  vs.length = xss.length ∧ ∀ (i : Nat) v xs, vs[i]? = some v → xss[i]? = some xs → SlAt enc k w F v xs
theorem SlsAt.mono {α : Type} {enc : α → List Value} {k : Nat} {F F' : Nat → Prop} {vs : List Value} {xss : List (List α)} (h : SlsAt enc k w F vs xss) (hF : ∀ b, F b → F' b) : SlsAt enc k w F' vs xss :=
  ⟨h.1, fun i v xs h1 h2 => (h.2 i v xs h1 h2).mono hF⟩
theorem SlsAt.loc {α : Type} {enc : α → List Value} {k : Nat} {F : Nat → Prop} {vs : List Value} {xss : List (List α)} (h : SlsAt enc k w F vs xss) (hb : ∀ b, F b → w'.heap[b]? = w.heap[b]?) : SlsAt enc k w' F vs xss :=
  ⟨h.1, fun i v xs h1 h2 => (h.2 i v xs h1 h2).loc hb⟩
def Sls {α : Type} (sh : Bool) (enc : α → List Value) (k : Nat) (vs : List Value) (xss : List (List α)) : Asn where
  sh := sh
  at_ w F := SlsAt enc k w F vs xss ∧ ∀ b, F b → b < w.heap.size
  loc h hb := ⟨h.1.loc hb, lt_loc h.2 hb⟩
  lt h := h.2
theorem St.sls {α : Type} {sh : Bool} {enc : α → List Value} {k : Nat} {vs : List Value} {xss : List (List α)} (S : St G w0 w L) (i : Nat) (hi : L[i]? = some (Sls sh enc k vs xss)) : ∃ F, SlsAt enc k w F vs xss := let ⟨F, h⟩ := S.get hi; ⟨F, h.1⟩
/-- One of several slices, by itself. -/
theorem St.slsEl {α : Type} {enc : α → List Value} {k : Nat} {vs : List Value} {xss : List (List α)} (S : St G w0 w L) (i : Nat) (hi : L[i]? = some (Sls true enc k vs xss)) {j : Nat} {v : Value} {xs : List α} (hv : vs[j]? = some v) (hx : xss[j]? = some xs) : St G w0 w (Sl true enc k v xs :: L) :=
  S.also i hi rfl rfl fun F h => ⟨F, fun _ h => h, h.1.2 j v xs hv hx, h.2⟩
theorem St.slsNil {α : Type} (S : St G w0 w L) (enc : α → List Value) (k : Nat) : St G w0 w (Sls false enc k [] ([] : List (List α)) :: L) :=
  S.grow (F := fun _ => False) (Keep.refl _ _) ⟨⟨rfl, fun i v xs h => by simp at h⟩, fun _ h => h.elim⟩ (fun _ h => h.elim)
/-- One slice more among several. -/
theorem St.slsSnoc {α : Type} {enc : α → List Value} {k : Nat} {vs : List Value} {xss : List (List α)} {v : Value} {xs : List α} (S : St G w0 w (Sl false enc k v xs :: Sls false enc k vs xss :: L)) : St G w0 w (Sls false enc k (vs ++ [v]) (xss ++ [xs]) :: L) :=
  S.merge _ rfl rfl rfl fun F F' h h' => by
    refine ⟨⟨by simp [h'.1.1], fun j u ys hu hy => ?_⟩, fun b hb => hb.elim (h.2 b) (h'.2 b)⟩
    by_cases hj : j < vs.length
    · rw [List.getElem?_append_left hj] at hu
      rw [List.getElem?_append_left (by rw [← h'.1.1]; exact hj)] at hy
      exact (h'.1.2 j u ys hu hy).mono fun _ => .inr
    · have hjl := (List.getElem?_eq_some_iff.1 hu).1
      simp at hjl
      obtain rfl : j = vs.length := by omega
      rw [List.getElem?_append_right (Nat.le_refl _)] at hu
      rw [List.getElem?_append_right (by rw [h'.1.1]; exact Nat.le_refl _)] at hy
      simp [h'.1.1] at hu hy
      subst hu; subst hy
      exact h.1.mono fun _ => .inl
end
section
variable {P : Program} {ops : Array Oper} {rest : List Oper} {a : Act} {Q : Exit → Act → World → Prop} {d : Option Tmp} {tt : TypeId} {p : String} {af : Array Edge} {gd : Option (Nat × Bool)} {x y : Operand} {w : World}
theorem run_index_leaf {T e : TypeId} {n : Nat} {cs : Array Value} {k : IntKind} {j : Nat} {v : Value} (hT : P.underlying T = some (.array n e)) (he : leafB P e = true) (hj : j < n) (hv : cs[j]? = some v) : (Instr.index T (.agg cs) (.int k j)).run P w = .ok v w := by
  unfold leafB at he
  simp only [Bool.and_eq_true] at he
  have h1 : (isAgg e).run P w = .ok false w := by
    cases hu : P.underlying e with
    | none => rw [hu] at he; simp at he
    | some x => rw [hu] at he; rw [run_isAgg hu]; unfold isAggB; rw [hu]; cases x <;> first | rfl | simp at he
  have h2 : (Go.sizeOf e).run P w = .ok 1 w := by
    cases hu : P.underlying e with
    | none => rw [hu] at he; simp at he
    | some u =>
      cases hi : P.info? e with
      | none => rw [hi] at he; simp at he
      | some i =>
        rw [hi] at he
        have h3 : i.size = 1 := by simpa using he.2
        have h4 : P.cellsOf e = 1 := by unfold Program.cellsOf; rw [hi]; exact h3
        rw [run_sizeOf hu, h4]
  have hn : (0 ≤ (j : Int) ∧ (j : Int) < (n : Int)) := by omega
  simp [Instr.index, run_underlying hT, asIntOf, hn, part, h1, h2, hv, go_sem, hj]
theorem wps_index {T e : TypeId} {n : Nat} {cs : Array Value} {k : IntKind} {j : Nat} {v : Value} (hx : a.eval x = .agg cs) (hy : a.eval y = .int k j) (hT : P.underlying T = some (.array n e)) (he : leafB P e = true) (hj : j < n) (hv : cs[j]? = some v)
    (next : wpList P ops Q rest (a.put d v) w) (hgd : gOk gd ops a = true := by with_unfolding_all rfl) : wpList P ops Q ({ dst := d, op := .index T x y, type := tt, pos := p, after := af, guard := gd } :: rest) a w :=
  wpList_ok hgd fun K hK => by
    unfold Oper.wp execOp
    simp only [hx, hy, run_index_leaf hT he hj hv, Sem.run_bind, Sem.run_pure, Result.andThen_ok]
    exact hK _ _ next
end
end Go.Proofs.YtfiiaechippboaaDoor.Mem

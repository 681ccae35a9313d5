import Derived.Test.YtejdfgonkfgnfaaK5
/- The messages that are left, plain: by counting IDs; it does not count in what order they stand, nor in which parts they are settled. -/
namespace Go.Proofs.Ytejdfgonkfgnfaa

/-- How many have this one's ID. -/
def ids (l : List Message) (a : Message) : Nat := l.countP fun b => sameId a.ev b.ev
def Good (l : List Message) : Prop := l.Pairwise fun a b => sameId a.ev b.ev = true → meets a b = true
theorem good_iff {l : List Message} : ¬ Bad l ↔ Good l := by
  rw [Good, List.pairwise_iff_getElem]
  constructor
  · intro h i j hi hj hij hs
    cases hm : meets l[i] l[j] with
    | true => rfl
    | false => exact absurd ⟨i, j, l[i], l[j], by omega, List.getElem?_eq_getElem hi, List.getElem?_eq_getElem hj, hs, hm⟩ h
  · rintro h ⟨i, j, a, b, hn, ha, hb, hs, hm⟩
    obtain ⟨h1, rfl⟩ := List.getElem?_eq_some_iff.1 ha
    obtain ⟨h2, rfl⟩ := List.getElem?_eq_some_iff.1 hb
    rcases Nat.lt_or_gt_of_ne hn with g | g
    · rw [h i j h1 h2 g hs] at hm; cases hm
    · rw [meets_symm (h j i h2 h1 g (sameId_symm hs))] at hm; cases hm
theorem good_perm {l m : List Message} (hp : l.Perm m) : Good l ↔ Good m :=
  hp.pairwise_iff fun h hs => meets_symm (h (sameId_symm hs))
theorem ids_perm {l m : List Message} (hp : l.Perm m) (a : Message) : ids l a = ids m a := hp.countP_eq _
theorem ids_app (l m : List Message) (a : Message) : ids (l ++ m) a = ids l a + ids m a := List.countP_append
theorem ids_same {l : List Message} {a b : Message} (h : sameId a.ev b.ev = true) : ids l a = ids l b := by
  unfold ids
  congr 1; funext c
  cases hc : sameId a.ev c.ev with
  | true => exact (sameId_trans (sameId_symm h) hc).symm
  | false =>
    cases hd : sameId b.ev c.ev with
    | false => rfl
    | true => rw [sameId_trans h hd] at hc; cases hc
theorem ids_pos {l : List Message} {a : Message} (h : a ∈ l) : 0 < ids l a := List.countP_pos_iff.2 ⟨a, h, sameId_refl _⟩
theorem ids_zero {l : List Message} {a : Message} : ids l a = 0 ↔ ∀ b ∈ l, sameId a.ev b.ev = false := by
  unfold ids
  rw [List.countP_eq_zero]
  exact ⟨fun h b hb => by simpa using h b hb, fun h b hb => by simp [h b hb]⟩
theorem ids_split {l : List Message} {i : Nat} (hi : i < l.length) (a : Message) : ids l a = ids (l.take i) a + (ids (l.drop (i + 1)) a + if sameId a.ev l[i].ev = true then 1 else 0) := by
  have e : l = l.take i ++ (l[i] :: l.drop (i + 1)) := by rw [← List.drop_eq_getElem_cons hi, List.take_append_drop]
  refine (congrArg (ids · a) e).trans ?_
  show ids (l.take i ++ (l[i] :: l.drop (i + 1))) a = _
  rw [ids_app]
  congr 1
  unfold ids
  rw [List.countP_cons]
theorem alone_ids {l : List Message} {i : Nat} {a : Message} (ha : l[i]? = some a) : aloneB l i = (ids l a == 1) := by
  rw [Bool.eq_iff_iff, aloneB_iff, beq_iff_eq]
  obtain ⟨hi, rfl⟩ := List.getElem?_eq_some_iff.1 ha
  have hc := ids_split hi l[i]
  rw [if_pos (sameId_refl _)] at hc
  constructor
  · intro h
    have h1 : ids (l.take i) l[i] = 0 := ids_zero.2 fun b hb => by
      obtain ⟨k, hk, rfl⟩ := List.mem_take_iff_getElem.1 hb
      exact h k _ _ (by omega) ha (List.getElem?_eq_getElem (by omega))
    have h2 : ids (l.drop (i + 1)) l[i] = 0 := ids_zero.2 fun b hb => by
      obtain ⟨k, hk, rfl⟩ := List.mem_drop_iff_getElem.1 hb
      exact h (i + 1 + k) _ _ (by omega) ha (List.getElem?_eq_getElem (by omega))
    omega
  · intro h k a' b hk ha' hb
    rw [ha] at ha'; cases ha'
    obtain ⟨hk2, rfl⟩ := List.getElem?_eq_some_iff.1 hb
    by_cases hlt : k < i
    · exact ids_zero.1 (by omega : ids (l.take i) l[i] = 0) _ (List.mem_take_iff_getElem.2 ⟨k, by omega, rfl⟩)
    · refine ids_zero.1 (by omega : ids (l.drop (i + 1)) l[i] = 0) _ (List.mem_drop_iff_getElem.2 ⟨k - (i + 1), by omega, ?_⟩)
      congr 1; omega
theorem leftTo_filter (l : List Message) : ∀ n, n ≤ l.length → leftTo l n = (l.take n).filter fun a => ids l a == 1
  | 0, _ => by simp [leftTo]
  | n + 1, h => by
    have ha : l[n]? = some l[n] := List.getElem?_eq_getElem h
    rw [leftTo, leftTo_filter l n (by omega), List.take_add_one, ha, List.filter_append]
    congr 1
    simp only [alone_ids ha, Option.toList_some, List.filter_cons, List.filter_nil]
theorem left_filter (l : List Message) : left l = l.filter fun a => ids l a == 1 := by
  rw [left, leftTo_filter l _ (Nat.le_refl _), List.take_of_length_le (Nat.le_refl _)]
theorem left_filter_q (x : List Message) (q : Message → Bool) : (left x).filter q = x.filter fun a => q a && (ids x a == 1) := by rw [left_filter, List.filter_filter]
theorem left_perm {l m : List Message} (hp : l.Perm m) : (left l).Perm (left m) := by
  rw [left_filter, left_filter]
  have e : (fun a => ids l a == 1) = fun a => ids m a == 1 := by funext a; rw [ids_perm hp]
  rw [e]
  exact hp.filter _
/-- Of what is left no two meet. -/
theorem left_apart {l : List Message} {i k : Nat} {a b : Message} (ha : (left l)[i]? = some a) (hb : (left l)[k]? = some b) (hn : i ≠ k) : meets a b = false := by
  cases hm : meets a b with
  | false => rfl
  | true =>
    have hs := meets_id hm
    have hpw : (left l).Pairwise fun a b => sameId a.ev b.ev = false := by
      rw [List.pairwise_iff_getElem]
      intro i j hi hj hij
      cases hx : sameId (left l)[i].ev (left l)[j].ev with
      | false => rfl
      | true =>
        have hsub : (left l).Sublist l := by rw [left_filter]; exact List.filter_sublist
        have hall : ∀ c ∈ left l, ids l c = 1 := fun c hc => by
          rw [left_filter, List.mem_filter] at hc
          simpa using hc.2
        have h1 : ids l (left l)[i] = 1 := hall _ (List.getElem_mem hi)
        have h2 : 2 ≤ ids (left l) (left l)[i] := by
          have g1 : 0 < ids ((left l).take j) (left l)[i] := ids_pos (List.mem_take_iff_getElem.2 ⟨i, by omega, rfl⟩)
          have g3 := ids_split hj (left l)[i]
          rw [if_pos hx] at g3
          omega
        have h3 : ids (left l) (left l)[i] ≤ ids l (left l)[i] := hsub.countP_le
        omega
    obtain ⟨h1, rfl⟩ := List.getElem?_eq_some_iff.1 ha
    obtain ⟨h2, rfl⟩ := List.getElem?_eq_some_iff.1 hb
    rw [List.pairwise_iff_getElem] at hpw
    rcases Nat.lt_or_gt_of_ne hn with g | g
    · rw [hpw i k h1 h2 g] at hs; cases hs
    · have := hpw k i h2 h1 g; rw [sameId_symm hs] at this; cases this
/-- No three of one ID. -/
theorem good_two {l : List Message} (h : Good l) (a : Message) : ids l a ≤ 2 := by
  induction l with
  | nil => simp [ids]
  | cons b l ih =>
    have h' := List.pairwise_cons.1 h
    have := ih h'.2
    unfold ids at this ⊢
    rw [List.countP_cons]
    split
    · rename_i hb
      have hle : ids l a ≤ 1 := by
        rcases Nat.lt_or_ge 1 (ids l a) with hgt | hgt
        · exfalso
          have hf : 1 < (l.filter fun c => sameId a.ev c.ev).length := by rw [← List.countP_eq_length_filter]; exact hgt
          rcases hq : l.filter (fun c => sameId a.ev c.ev) with _ | ⟨c, _ | ⟨d, r⟩⟩
          · rw [hq] at hf; simp at hf
          · rw [hq] at hf; simp at hf
          · have hsub : (c :: d :: r).Sublist l := by rw [← hq]; exact List.filter_sublist
            have hc : c ∈ l.filter fun c => sameId a.ev c.ev := by rw [hq]; simp
            have hd : d ∈ l.filter fun c => sameId a.ev c.ev := by rw [hq]; simp
            rw [List.mem_filter] at hc hd
            have m1 := h'.1 c hc.1 (sameId_trans (sameId_symm hb) hc.2)
            have m2 := h'.1 d hd.1 (sameId_trans (sameId_symm hb) hd.2)
            have m3 := (List.pairwise_cons.1 (h'.2.sublist hsub)).1 d (by simp) (sameId_trans (sameId_symm hc.2) hd.2)
            rw [meets_three m1 m2] at m3; cases m3
        · exact hgt
      unfold ids at hle; omega
    · omega
theorem ids_left (x : List Message) (a : Message) : ids (left x) a = if ids x a = 1 then 1 else 0 := by
  rw [left_filter]
  unfold ids
  rw [List.countP_filter]
  split
  · rename_i h
    refine Eq.trans ?_ h
    refine List.countP_congr fun b _ => ?_
    simp only [Bool.and_eq_true, beq_iff_eq, and_iff_left_iff_imp]
    intro hs
    exact (ids_same (l := x) hs).symm.trans h
  · rename_i h
    rw [List.countP_eq_zero]
    intro b _ hb
    simp only [Bool.and_eq_true, beq_iff_eq] at hb
    exact h ((ids_same hb.1).trans hb.2)
/-- To settle a part ahead turns nothing. -/
theorem left_parts {x y : List Message} (h : Good (x ++ y)) : Good x ∧ Good (left x ++ y) ∧ left (left x ++ y) = left (x ++ y) := by
  have hsub : (left x ++ y).Sublist (x ++ y) := by rw [left_filter]; exact List.filter_sublist.append_right y
  refine ⟨h.sublist (List.sublist_append_left _ _), h.sublist hsub, ?_⟩
  have e1 := left_filter (left x ++ y)
  have e2 := left_filter (x ++ y)
  rw [e1, e2, List.filter_append, List.filter_append]
  congr 1
  · rw [left_filter_q]
    refine List.filter_congr fun a ha => ?_
    have hp := ids_pos ha
    rw [ids_app, ids_app, ids_left, Bool.eq_iff_iff]
    simp only [Bool.and_eq_true, beq_iff_eq]
    split <;> omega
  · refine List.filter_congr fun a ha => ?_
    have hp := ids_pos ha
    have h2 := good_two h a
    rw [ids_app] at h2
    rw [ids_app, ids_app, ids_left, Bool.eq_iff_iff]
    simp only [beq_iff_eq]
    split <;> omega
end Go.Proofs.Ytejdfgonkfgnfaa

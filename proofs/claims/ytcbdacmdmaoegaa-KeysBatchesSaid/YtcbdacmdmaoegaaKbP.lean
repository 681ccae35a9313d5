import Derived.Test.YtcbdacmdmaoegaaBt
/- Plain: batches of a list in order are its parts, by rising times; sorting goes with choosing. No program in sight. -/
namespace Go.Proofs.Ytcbdacmdmaoegaa
open Go Go.RowKit Mem

theorem batches_flat : ∀ (n : Nat) (s : List Event), s.length ≤ n → (batchesE s).flatten = s
  | _, [], _ => by rw [batchesE]; rfl
  | 0, _ :: _, h => by simp at h
  | n + 1, x :: l, h => by
    have hd : (l.dropWhile (fun y => y.key.at_ == x.key.at_)).length ≤ l.length := (List.dropWhile_sublist _).length_le
    rw [batchesE, List.flatten_cons, batches_flat n _ (by simp at h; omega), List.cons_append, List.takeWhile_append_dropWhile]
theorem dw_head {p : Event → Bool} : ∀ {l : List Event} {y : Event} {t : List Event}, l.dropWhile p = y :: t → p y = false
  | [], _, _, h => by simp at h
  | x :: l, y, t, h => by
    rw [List.dropWhile_cons] at h
    split at h
    · exact dw_head h
    · rename_i hp; cases h; simpa using hp
theorem dw_over {x : Event} {l : List Event} (h : (x :: l).Pairwise (fun a b => a.key.at_ ≤ b.key.at_)) : ∀ y ∈ l.dropWhile (fun y => y.key.at_ == x.key.at_), x.key.at_ < y.key.at_ := by
  intro y hy
  have h1 := List.pairwise_cons.1 h
  cases hd : l.dropWhile (fun y => y.key.at_ == x.key.at_) with
  | nil => rw [hd] at hy; cases hy
  | cons z t =>
    have hz := dw_head hd
    have hsub : (z :: t).Sublist l := hd ▸ List.dropWhile_sublist _
    have hz1 := h1.1 z (hsub.subset (by simp))
    have hz2 : z.key.at_ ≠ x.key.at_ := by simpa using hz
    rw [hd] at hy
    rcases List.mem_cons.1 hy with rfl | hy
    · omega
    · have := (List.pairwise_cons.1 (h1.2.sublist hsub)).1 y hy
      omega
theorem batches_mems : ∀ (n : Nat) (s : List Event), s.length ≤ n → ∀ g ∈ batchesE s, 0 < g.length ∧ g.Sublist s ∧ (∀ x ∈ g, x.key.at_ = atE g)
  | _, [], _, g, hg => by rw [batchesE] at hg; cases hg
  | 0, _ :: _, h, _, _ => by simp at h
  | n + 1, x :: l, h, g, hg => by
    have hd : (l.dropWhile (fun y => y.key.at_ == x.key.at_)).length ≤ l.length := (List.dropWhile_sublist _).length_le
    rw [batchesE] at hg
    refine ⟨?_, ?_, ?_⟩
    all_goals rcases List.mem_cons.1 hg with rfl | hg
    · simp
    · exact (batches_mems n _ (by simp at h; omega) g hg).1
    · exact (List.takeWhile_sublist _).cons_cons _
    · exact ((batches_mems n _ (by simp at h; omega) g hg).2.1.trans (List.dropWhile_sublist _)).cons _
    · intro z hz
      rcases List.mem_cons.1 hz with rfl | hz
      · rfl
      · have := tw_mem hz; show _ = x.key.at_; simpa using this
    · exact (batches_mems n _ (by simp at h; omega) g hg).2.2
theorem batch_head {n : Nat} {s : List Event} (hn : s.length ≤ n) {g : List Event} (hg : g ∈ batchesE s) : ∃ z ∈ s, z.key.at_ = atE g := by
  obtain ⟨h1, h2, h3⟩ := batches_mems n s hn g hg
  cases g with
  | nil => simp at h1
  | cons z t => exact ⟨z, h2.subset (by simp), rfl⟩
theorem batches_rise : ∀ (n : Nat) (s : List Event), s.length ≤ n → s.Pairwise (fun a b => a.key.at_ ≤ b.key.at_) → (batchesE s).Pairwise (fun g h => atE g < atE h)
  | _, [], _, _ => by rw [batchesE]; exact List.Pairwise.nil
  | 0, _ :: _, h, _ => by simp at h
  | n + 1, x :: l, h, hp => by
    have hd : (l.dropWhile (fun y => y.key.at_ == x.key.at_)).length ≤ l.length := (List.dropWhile_sublist _).length_le
    rw [batchesE]
    refine List.pairwise_cons.2 ⟨fun g hg => ?_, batches_rise n _ (by simp at h; omega) (((List.pairwise_cons.1 hp).2).sublist (List.dropWhile_sublist _))⟩
    obtain ⟨z, hz, e⟩ := batch_head (n := n) (by simp at h; omega) hg
    have := dw_over hp z hz
    show x.key.at_ < atE g
    omega
theorem filter_tw {x : Event} {l : List Event} (h : (x :: l).Pairwise (fun a b => a.key.at_ ≤ b.key.at_)) : l.filter (fun y => y.key.at_ == x.key.at_) = l.takeWhile (fun y => y.key.at_ == x.key.at_) := by
  have e : l.filter (fun y => y.key.at_ == x.key.at_) = (l.takeWhile (fun y => y.key.at_ == x.key.at_)).filter (fun y => y.key.at_ == x.key.at_) ++ (l.dropWhile (fun y => y.key.at_ == x.key.at_)).filter (fun y => y.key.at_ == x.key.at_) := by
    rw [← List.filter_append, List.takeWhile_append_dropWhile]
  have e1 : (l.takeWhile (fun y => y.key.at_ == x.key.at_)).filter (fun y => y.key.at_ == x.key.at_) = l.takeWhile (fun y => y.key.at_ == x.key.at_) := List.filter_eq_self.2 fun a ha => (tw_mem ha : _)
  have e2 : (l.dropWhile (fun y => y.key.at_ == x.key.at_)).filter (fun y => y.key.at_ == x.key.at_) = [] := List.filter_eq_nil_iff.2 fun a ha => by have := dw_over h a ha; simp; omega
  rw [e, e1, e2, List.append_nil]
theorem batch_filter : ∀ (n : Nat) (s : List Event), s.length ≤ n → s.Pairwise (fun a b => a.key.at_ ≤ b.key.at_) → ∀ g ∈ batchesE s, g = s.filter (fun y => y.key.at_ == atE g)
  | _, [], _, _, g, hg => by rw [batchesE] at hg; cases hg
  | 0, _ :: _, h, _, _, _ => by simp at h
  | n + 1, x :: l, h, hp, g, hg => by
    have hd : (l.dropWhile (fun y => y.key.at_ == x.key.at_)).length ≤ l.length := (List.dropWhile_sublist _).length_le
    rw [batchesE] at hg
    rcases List.mem_cons.1 hg with rfl | hg
    · show _ = (x :: l).filter (fun y => y.key.at_ == x.key.at_)
      rw [List.filter_cons_of_pos (by simp), filter_tw hp]
    · obtain ⟨z, hz, e⟩ := batch_head (n := n) (by simp at h; omega) hg
      have hlt := dw_over hp z hz
      have ih := batch_filter n _ (by simp at h; omega) (((List.pairwise_cons.1 hp).2).sublist (List.dropWhile_sublist _)) g hg
      rw [List.filter_cons_of_neg (by simp; omega)]
      have e1 : (l.takeWhile (fun y => y.key.at_ == x.key.at_)).filter (fun y => y.key.at_ == atE g) = [] := List.filter_eq_nil_iff.2 fun a ha => by
        have : a.key.at_ = x.key.at_ := by simpa using (tw_mem ha : _)
        simp; omega
      have e2 : l.filter (fun y => y.key.at_ == atE g) = (l.dropWhile (fun y => y.key.at_ == x.key.at_)).filter (fun y => y.key.at_ == atE g) := by
        conv => lhs; rw [← List.takeWhile_append_dropWhile (p := fun y : Event => y.key.at_ == x.key.at_) (l := l)]
        rw [List.filter_append, e1, List.nil_append]
      rw [e2]; exact ih
theorem sortE_at (l : List Event) : (sortE l).Pairwise (fun a b => a.key.at_ ≤ b.key.at_) := by
  refine (sortE_up l).imp fun {a b} h => ?_
  rcases Int.lt_or_le b.key.at_ a.key.at_ with hlt | hle
  · have := (Key.lt_iff b.key a.key).2 (.inl hlt)
    rw [this] at h; cases h
  · exact hle
theorem tw_filter {q : Event → Bool} : ∀ {l : List Event}, l.Pairwise (fun a b => q b = true → q a = true) → l.takeWhile q = l.filter q ∧ l.dropWhile q = l.filter (fun y => !q y)
  | [], _ => by simp
  | x :: l, h => by
    obtain ⟨h1, h2⟩ := List.pairwise_cons.1 h
    obtain ⟨i1, i2⟩ := tw_filter h2
    cases hq : q x with
    | true => simp [hq, i1, i2]
    | false =>
      have hn : ∀ y ∈ l, q y = false := fun y hy => by
        cases hy2 : q y with
        | false => rfl
        | true => have := h1 y hy hy2; rw [hq] at this; cases this
      have e1 : l.filter q = [] := List.filter_eq_nil_iff.2 fun a ha => by rw [hn a ha]; simp
      have e2 : l.filter (fun y => !q y) = l := List.filter_eq_self.2 fun a ha => by rw [hn a ha]; rfl
      simp [hq, e1, e2]
theorem ins_filter {out : List Event} {x : Event} (h : out.Pairwise (fun a b => b.key.lt a.key = false)) : insE out x = out.filter (fun y => !x.key.lt y.key) ++ x :: out.filter (fun y => x.key.lt y.key) := by
  have hm : out.Pairwise (fun a b => (!x.key.lt b.key) = true → (!x.key.lt a.key) = true) := h.imp fun {a b} hab hb => by
    simp only [Bool.not_eq_true'] at hb ⊢
    exact Key.le_trans' hab hb
  obtain ⟨h1, h2⟩ := tw_filter hm
  unfold insE
  rw [h1, h2]
  simp
theorem sort_filter (p : Event → Bool) (l : List Event) : sortE (l.filter p) = (sortE l).filter p := by
  have key : ∀ (m : List Event), sortE (m.reverse.filter p) = (sortE m.reverse).filter p := by
    intro m
    induction m with
    | nil => rfl
    | cons x m ih =>
      have e : sortE (m.reverse ++ [x]) = insE (sortE m.reverse) x := by unfold sortE; rw [List.foldl_append]; rfl
      rw [List.reverse_cons, List.filter_append, e, ins_filter (sortE_up _)]
      cases hp : p x with
      | false =>
        rw [show [x].filter p = [] by simp [hp], List.append_nil, ih, List.filter_append, List.filter_cons_of_neg (by simp [hp])]
        rw [← List.filter_append]
        have : insE (sortE m.reverse) x = (sortE m.reverse).takeWhile (fun y => !x.key.lt y.key) ++ x :: (sortE m.reverse).dropWhile (fun y => !x.key.lt y.key) := rfl
        have hm : (sortE m.reverse).Pairwise (fun a b => (!x.key.lt b.key) = true → (!x.key.lt a.key) = true) := (sortE_up _).imp fun {a b} hab hb => by
          simp only [Bool.not_eq_true'] at hb ⊢
          exact Key.le_trans' hab hb
        obtain ⟨h1, h2⟩ := tw_filter hm
        have e3 : (sortE m.reverse).filter (fun y => x.key.lt y.key) = (sortE m.reverse).dropWhile (fun y => !x.key.lt y.key) := by rw [h2]; simp
        rw [← h1, e3, List.takeWhile_append_dropWhile]
      | true =>
        have e2 : sortE (m.reverse.filter p ++ [x]) = insE (sortE (m.reverse.filter p)) x := by unfold sortE; rw [List.foldl_append]; rfl
        rw [show [x].filter p = [x] by simp [hp], e2, ins_filter (sortE_up _), ih, List.filter_append, List.filter_cons_of_pos hp, List.filter_filter, List.filter_filter, List.filter_filter, List.filter_filter]
        congr 1
        · congr 1; funext y; rw [Bool.and_comm]
        · congr 2; funext y; rw [Bool.and_comm]
  have := key l.reverse
  rwa [List.reverse_reverse] at this
/-- The batch of a time is what has this time, in order. -/
theorem batch_of (l : List Event) {g : List Event} (hg : g ∈ batchesE (sortE l)) : sortE (l.filter (fun y => y.key.at_ == atE g)) = g := by
  rw [sort_filter]; exact (batch_filter _ _ (Nat.le_refl _) (sortE_at l) g hg).symm
/-- The events ahead of a batch. -/
def aheadN (gs : List (List Event)) (k : Nat) : Nat := ((gs.take k).flatten).length
theorem ahead_step {gs : List (List Event)} {k : Nat} {g : List Event} (h : gs[k]? = some g) : aheadN gs (k + 1) = aheadN gs k + g.length := by
  unfold aheadN; rw [List.take_add_one, h, Option.toList_some, List.flatten_append, List.length_append]; simp
theorem ahead_part {gs : List (List Event)} {s : List Event} (hs : gs.flatten = s) {k : Nat} {g : List Event} (h : gs[k]? = some g) : aheadN gs k + g.length ≤ s.length ∧ (s.drop (aheadN gs k)).take g.length = g := by
  have hk := (List.getElem?_eq_some_iff.1 h)
  have e : gs = gs.take k ++ g :: gs.drop (k + 1) := by
    rw [← hk.2, ← List.drop_eq_getElem_cons hk.1, List.take_append_drop]
  have e2 : s = (gs.take k).flatten ++ (g ++ (gs.drop (k + 1)).flatten) := by
    rw [← hs]; conv => lhs; rw [e]
    rw [List.flatten_append, List.flatten_cons]
  refine ⟨?_, ?_⟩
  · rw [e2]; unfold aheadN; simp only [List.length_append]; omega
  · rw [e2]; unfold aheadN; rw [List.drop_left, List.take_left]
theorem ahead_all {gs : List (List Event)} {s : List Event} (hs : gs.flatten = s) : aheadN gs gs.length = s.length := by
  unfold aheadN; rw [List.take_length, hs]
end Go.Proofs.Ytcbdacmdmaoegaa

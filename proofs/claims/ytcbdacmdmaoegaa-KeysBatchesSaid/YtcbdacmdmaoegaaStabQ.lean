import Derived.Test.YtcbdacmdmaoegaaStabP
/- Stable sorting, plain: runs that are merged, and what the sorted list is. -/
namespace Go.Proofs.Ytcbdacmdmaoegaa

def InT (a : Nat) (l : List TE) : Prop := ∀ x ∈ l, a ≤ x.2 ∧ x.2 < a + l.length
inductive Runs (k : Nat) : Nat → List TE → Prop
  | last {a : Nat} {l : List TE} : l.length ≤ k → Srt l → InT a l → Runs k a l
  | cons {a : Nat} {l r : List TE} : l.length = k → Srt l → InT a l → Runs k (a + k) r → Runs k a (l ++ r)
structure Done (k a : Nat) (d : List TE) : Prop where
  len : d.length = a
  go : ∀ r, Runs k a r → Runs k 0 (d ++ r)
theorem Done.start (k : Nat) : Done k 0 [] := ⟨rfl, fun _ h => h⟩
theorem Done.step {k a : Nat} {d l : List TE} (h : Done k a d) (hl : l.length = k) (hs : Srt l) (hi : InT a l) : Done k (a + k) (d ++ l) :=
  ⟨by rw [List.length_append, h.len, hl], fun r hr => by rw [List.append_assoc]; exact h.go _ (.cons hl hs hi hr)⟩
theorem InT.perm {a : Nat} {l m : List TE} (h : InT a l) (hp : m.Perm l) : InT a m := fun x hx => by
  have := h x (hp.mem_iff.1 hx)
  rw [hp.length_eq]; exact this
theorem InT.two {a k : Nat} {l m : List TE} (h1 : InT a l) (h2 : InT (a + k) m) (hl : l.length = k) : InT a (l ++ m) ∧ ∀ x ∈ l, ∀ y ∈ m, x.2 < y.2 := by
  refine ⟨fun x hx => ?_, fun x hx y hy => ?_⟩
  · rw [List.length_append]
    rcases List.mem_append.1 hx with h | h
    · have := h1 x h; omega
    · have := h2 x h; omega
  · have := h1 x hx; have := h2 y hy; omega
theorem runs_two {k a : Nat} {r : List TE} (h : Runs k a r) (hk : 0 < k) (hl : 2 * k ≤ r.length) :
    ∃ l1 l2 r2 : List TE, r = l1 ++ l2 ++ r2 ∧ l1.length = k ∧ l2.length = k ∧ Srt l1 ∧ Srt l2 ∧ InT a l1 ∧ InT (a + k) l2 ∧ Runs k (a + 2 * k) r2 := by
  cases h with
  | last h1 h2 h3 => omega
  | @cons _ l r h1 h2 h3 h4 =>
    cases h4 with
    | last g1 g2 g3 =>
      have : r.length = k := by simp at hl; omega
      exact ⟨l, r, [], by simp, h1, this, h2, g2, h3, g3, .last (by simp) List.Pairwise.nil (fun x hx => by cases hx)⟩
    | @cons _ l' r' g1 g2 g3 g4 => exact ⟨l, l', r', by simp, h1, g1, h2, g2, h3, g3, by rw [show a + 2 * k = a + k + k by omega]; exact g4⟩
theorem runs_one {k a : Nat} {r : List TE} (h : Runs k a r) (hl : r.length < 2 * k) (hl2 : k < r.length) :
    ∃ l1 l2 : List TE, r = l1 ++ l2 ∧ l1.length = k ∧ Srt l1 ∧ Srt l2 ∧ InT a l1 ∧ InT (a + k) l2 := by
  cases h with
  | last h1 h2 h3 => omega
  | @cons _ l r h1 h2 h3 h4 =>
    cases h4 with
    | last g1 g2 g3 => exact ⟨l, r, rfl, h1, h2, g2, h3, g3⟩
    | @cons _ l' r' g1 g2 g3 g4 =>
      have : r' = [] := List.eq_nil_of_length_eq_zero (by simp at hl; omega)
      subst this
      exact ⟨l, l' ++ [], rfl, h1, h2, by rw [List.append_nil]; exact g2, h3, by rw [List.append_nil]; exact g3⟩
theorem runs_srt {k a : Nat} {r : List TE} (h : Runs k a r) (hl : r.length ≤ k) : Srt r ∧ InT a r := by
  cases h with
  | last h1 h2 h3 => exact ⟨h2, h3⟩
  | @cons _ l r h1 h2 h3 h4 =>
    have : r = [] := List.eq_nil_of_length_eq_zero (by simp at hl; omega)
    subst this
    rw [List.append_nil]; exact ⟨h2, h3⟩
/-- Events with their places. -/
def tag (l : List Event) : List TE := l.zipIdx
theorem tag_len (l : List Event) : (tag l).length = l.length := by simp [tag]
theorem tag_get (l : List Event) (i : Nat) : (tag l)[i]? = l[i]?.map fun x => (x, i) := by simp [tag, List.getElem?_zipIdx]
theorem tag_map (l : List Event) : (tag l).map (·.1) = l := by
  apply List.ext_getElem?
  intro i
  rw [List.getElem?_map, tag_get]
  cases l[i]? <;> rfl
theorem tag_idx {l : List Event} {i : Nat} {x : TE} (h : (tag l)[i]? = some x) : x.2 = i := by
  rw [tag_get] at h
  obtain ⟨y, _, rfl⟩ := Option.map_eq_some_iff.1 h
  rfl
theorem tag_rise (l : List Event) : (tag l).Pairwise (fun x y => x.2 < y.2) := by
  rw [List.pairwise_iff_getElem]
  intro i j hi hj hij
  rw [tag_idx (List.getElem?_eq_getElem hi), tag_idx (List.getElem?_eq_getElem hj)]; exact hij
theorem tag_in (l : List Event) (a n : Nat) (h : a + n ≤ l.length) : InT a (((tag l).drop a).take n) := fun x hx => by
  obtain ⟨k, hk, rfl⟩ := List.mem_take_iff_getElem.1 hx
  have hk2 : k < ((tag l).drop a).length := by omega
  have e := tag_idx (l := l) (i := a + k) (x := ((tag l).drop a)[k]) (by rw [← List.getElem?_drop]; exact List.getElem?_eq_getElem hk2)
  rw [e]
  simp only [List.length_take, List.length_drop, tag_len]
  rw [List.length_drop, tag_len] at hk2
  omega
/-- The sorted list: each is put behind those that it is not ahead of. -/
def insE (out : List Event) (x : Event) : List Event := out.takeWhile (fun y => !x.key.lt y.key) ++ x :: out.dropWhile (fun y => !x.key.lt y.key)
def sortE (l : List Event) : List Event := l.foldl insE []
def insT (out : List TE) (x : TE) : List TE := out.takeWhile (fun y => !tless x y) ++ x :: out.dropWhile (fun y => !tless x y)
theorem insT_map (out : List TE) (x : TE) : (insT out x).map (·.1) = insE (out.map (·.1)) x.1 := by
  simp only [insT, insE, List.map_append, List.map_cons, List.takeWhile_map, List.dropWhile_map]
  rfl
theorem tw_mem {α : Type} {p : α → Bool} : ∀ {l : List α} {z : α}, z ∈ l.takeWhile p → p z = true
  | [], z, h => by simp at h
  | a :: l, z, h => by
    rw [List.takeWhile_cons] at h
    split at h
    · rename_i ha
      rcases List.mem_cons.1 h with rfl | h
      · exact ha
      · exact tw_mem h
    · simp at h
theorem insT_perm (out : List TE) (x : TE) : (insT out x).Perm (x :: out) := by
  refine List.perm_middle.trans ?_
  rw [List.takeWhile_append_dropWhile]
theorem insT_srt {out : List TE} {x : TE} (hs : Srt out) (ht : ∀ y ∈ out, y.2 < x.2) : Srt (insT out x) := by
  have y1 : ∀ z ∈ out.takeWhile (fun y => !tless x y), slt z x := fun z hz => by
    have h1 := tw_mem hz
    exact slt_no (by simpa using h1) (ht z ((List.takeWhile_sublist _).subset hz))
  have hd : Srt (out.dropWhile (fun y => !tless x y)) := hs.sublist (List.dropWhile_sublist _)
  have y2 : ∀ z ∈ out.dropWhile (fun y => !tless x y), slt x z := by
    cases hq : out.dropWhile (fun y => !tless x y) with
    | nil => intro z hz; cases hz
    | cons y r =>
      have hy : tless x y = true := by
        have := List.head?_dropWhile_not (p := fun y => !tless x y) (l := out)
        rw [hq] at this; simpa using this
      rw [hq] at hd
      intro z hz
      rcases List.mem_cons.1 hz with rfl | hz
      · exact slt_yes hy
      · exact slt_trans (slt_yes hy) ((List.pairwise_cons.1 hd).1 z hz)
  refine List.pairwise_append.2 ⟨hs.sublist (List.takeWhile_sublist _), List.pairwise_cons.2 ⟨y2, hd⟩, fun u hu v hv => ?_⟩
  rcases List.mem_cons.1 hv with rfl | hv
  · exact y1 u hu
  · exact slt_trans (y1 u hu) (y2 v hv)
theorem foldT : ∀ (l out : List TE), Srt out → (∀ x ∈ out, ∀ y ∈ l, x.2 < y.2) → l.Pairwise (fun x y => x.2 < y.2) → Srt (l.foldl insT out) ∧ (l.foldl insT out).Perm (out ++ l) ∧ (l.foldl insT out).map (·.1) = (l.map (·.1)).foldl insE (out.map (·.1))
  | [], out, hs, _, _ => by simpa using hs
  | x :: l, out, hs, ht, hl => by
    have hl' := List.pairwise_cons.1 hl
    have hp := insT_perm out x
    have h1 := insT_srt (x := x) hs (fun y hy => ht y hy x (by simp))
    obtain ⟨g1, g2, g3⟩ := foldT l (insT out x) h1 (fun y hy z hz => by
      rcases List.mem_cons.1 (hp.mem_iff.1 hy) with rfl | hy
      · exact hl'.1 z hz
      · exact ht y hy z (by simp [hz])) hl'.2
    refine ⟨g1, ?_, by rw [List.foldl_cons, g3, insT_map]; rfl⟩
    rw [List.foldl_cons]
    refine g2.trans ((hp.append_right l).trans ?_)
    exact (List.perm_middle (l₁ := out)).symm
theorem sortE_of {l : List Event} {ys : List TE} (hp : ys.Perm (tag l)) (hs : Srt ys) : ys.map (·.1) = sortE l := by
  obtain ⟨g1, g2, g3⟩ := foldT (tag l) [] List.Pairwise.nil (fun x hx => by cases hx) (tag_rise l)
  rw [srt_uniq hs g1 (hp.trans (by simpa using g2.symm)), g3, tag_map]; rfl
theorem sortE_ex (l : List Event) : ∃ ys : List TE, ys.Perm (tag l) ∧ Srt ys ∧ ys.map (·.1) = sortE l := by
  obtain ⟨g1, g2, g3⟩ := foldT (tag l) [] List.Pairwise.nil (fun x hx => by cases hx) (tag_rise l)
  exact ⟨_, by simpa using g2, g1, by rw [g3, tag_map]; rfl⟩
theorem sortE_perm (l : List Event) : (sortE l).Perm l := by
  obtain ⟨ys, h1, _, h3⟩ := sortE_ex l
  rw [← h3]
  have := h1.map (·.1)
  rwa [tag_map] at this
theorem sortE_len (l : List Event) : (sortE l).length = l.length := (sortE_perm l).length_eq
end Go.Proofs.Ytcbdacmdmaoegaa

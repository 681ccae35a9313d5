import Derived.Test.YtcbdacmdmaoegaaKeysP
import Derived.Test.YtcbdacmdmaoegaaOrd
/- Stable sorting, plain: events with their places, sorted by keys, and by places where keys are the same. -/
namespace Go.Proofs.Ytcbdacmdmaoegaa

abbrev TE := Event × Nat
def tless (x y : TE) : Bool := x.1.key.lt y.1.key
def slt (x y : TE) : Prop := tless x y = true ∨ (tless y x = false ∧ x.2 < y.2)
abbrev Srt (l : List TE) : Prop := l.Pairwise slt
theorem slt_trans {x y z : TE} (h : slt x y) (k : slt y z) : slt x z := by
  simp only [slt, tless, Bool.eq_false_iff, ne_eq, Key.lt_iff] at *; omega
theorem slt_irrefl (x : TE) : ¬ slt x x := by
  simp only [slt, tless, Bool.eq_false_iff, ne_eq, Key.lt_iff]; omega
theorem slt_asymm {x y : TE} (h : slt x y) : ¬ slt y x := fun k => slt_irrefl _ (slt_trans h k)
theorem slt_yes {x y : TE} (h : tless x y = true) : slt x y := .inl h
theorem slt_no {x y : TE} (h : tless y x = false) (k : x.2 < y.2) : slt x y := .inr ⟨h, k⟩
/-- x is behind y, and so it is behind all that are ahead of y. -/
theorem tless_down {x y z : TE} (h : slt x y) (k : tless y z = true) : tless x z = true := by
  simp only [slt, tless, Bool.eq_false_iff, ne_eq, Key.lt_iff] at *; omega
theorem tless_up {x y z : TE} (h : slt x y) (k : tless z x = true) : tless z y = true := by
  simp only [slt, tless, Bool.eq_false_iff, ne_eq, Key.lt_iff] at *; omega
theorem tless_cmp (x y : TE) : decide (x.1.key.cmp y.1.key < 0) = tless x y := Key.cmp_neg _ _
/-- Sorted lists of the same things are the same. -/
theorem srt_uniq : ∀ {l m : List TE}, Srt l → Srt m → l.Perm m → l = m
  | [], m, _, _, hp => by simpa using hp
  | a :: l, [], _, _, hp => by simpa using hp.length_eq
  | a :: l, b :: m, hl, hm, hp => by
    have hl' := List.pairwise_cons.1 hl
    have hm' := List.pairwise_cons.1 hm
    have hab : a = b := by
      have h1 : a ∈ b :: m := hp.mem_iff.1 (by simp)
      have h2 : b ∈ a :: l := hp.mem_iff.2 (by simp)
      rcases List.mem_cons.1 h1 with h | h
      · exact h
      · rcases List.mem_cons.1 h2 with h3 | h3
        · exact h3.symm
        · exact absurd (hl'.1 b h3) (slt_asymm (hm'.1 a h))
    subst hab
    rw [srt_uniq hl'.2 hm'.2 (List.Perm.cons_inv hp)]

/-- The binary search: where f turns. -/
structure BS (f : Nat → Bool) (lo hi i j : Nat) : Prop where
  le1 : lo ≤ i
  le2 : i ≤ j
  le3 : j ≤ hi
  yes : ∀ k, lo ≤ k → k < i → f k = true
  no : ∀ k, j ≤ k → k < hi → f k = false
def Falls (f : Nat → Bool) (lo hi : Nat) : Prop := ∀ k k', lo ≤ k → k ≤ k' → k' < hi → f k' = true → f k = true
theorem BS.start {f : Nat → Bool} {lo hi : Nat} (h : lo ≤ hi) : BS f lo hi lo hi := ⟨Nat.le_refl _, h, Nat.le_refl _, fun k h1 h2 => by omega, fun k h1 h2 => by omega⟩
theorem BS.up {f : Nat → Bool} {lo hi i j : Nat} (h : BS f lo hi i j) (hf : Falls f lo hi) {k : Nat} (h1 : i ≤ k) (h2 : k < j) (hk : f k = true) : BS f lo hi (k + 1) j :=
  ⟨by have := h.le1; omega, by omega, h.le3, fun q hq hq' => hf q k hq (by omega) (by have := h.le3; omega) hk, h.no⟩
theorem BS.down {f : Nat → Bool} {lo hi i j : Nat} (h : BS f lo hi i j) (hf : Falls f lo hi) {k : Nat} (h1 : i ≤ k) (h2 : k < j) (hk : f k = false) : BS f lo hi i k :=
  ⟨h.le1, h1, by have := h.le3; omega, h.yes, fun q hq hq' => by
    cases hv : f q with
    | false => rfl
    | true => rw [hf k q (by have := h.le1; omega) hq hq' hv] at hk; cases hk⟩

/-- What a merge leaves. -/
def Merged (p l r q ys : List TE) : Prop := ∃ s : List TE, s.Perm (l ++ r) ∧ Srt s ∧ ys = p ++ s ++ q
theorem srt_get {l : List TE} (h : Srt l) {i j : Nat} {x y : TE} (hij : i < j) (hx : l[i]? = some x) (hy : l[j]? = some y) : slt x y := by
  obtain ⟨h1, rfl⟩ := List.getElem?_eq_some_iff.1 hx
  obtain ⟨h2, rfl⟩ := List.getElem?_eq_some_iff.1 hy
  exact List.pairwise_iff_getElem.1 h i j h1 h2 hij
theorem tless_run {l : List TE} (h : Srt l) {i j : Nat} {x y z : TE} (hij : i ≤ j) (hx : l[i]? = some x) (hy : l[j]? = some y) (hz : tless y z = true) : tless x z = true := by
  by_cases e : i = j
  · subst e; rw [hx] at hy; cases hy; exact hz
  · exact tless_down (srt_get h (by omega) hx hy) hz
theorem tless_run' {l : List TE} (h : Srt l) {i j : Nat} {x y z : TE} (hij : i ≤ j) (hx : l[i]? = some x) (hy : l[j]? = some y) (hz : tless z x = true) : tless z y = true := by
  by_cases e : i = j
  · subst e; rw [hx] at hy; cases hy; exact hz
  · exact tless_up (srt_get h (by omega) hx hy) hz
/-- What stands at a place of a list of four parts. -/
def att (xs : List TE) (k : Nat) : TE := xs[k]?.getD (⟨⟨0, 0, 0, 0⟩, 0, 0, 0⟩, 0)
theorem att_some {xs : List TE} {k : Nat} {x : TE} (h : xs[k]? = some x) : att xs k = x := by simp [att, h]
theorem some_att {xs : List TE} {k : Nat} (h : k < xs.length) : xs[k]? = some (att xs k) := by simp [att, h]
section
variable {p l r q xs : List TE} {a m b : Nat}
/-- p, l, r, q in a row: where each lies. -/
structure Parts (p l r q xs : List TE) (a m b : Nat) : Prop where
  eq : xs = p ++ l ++ r ++ q
  ha : a = p.length
  hm : m = a + l.length
  hb : b = m + r.length
theorem Parts.left (h : Parts p l r q xs a m b) {k : Nat} (hk : k < l.length) : xs[a + k]? = l[k]? := by
  obtain ⟨rfl, rfl, rfl, rfl⟩ := h
  rw [List.append_assoc, List.append_assoc, List.getElem?_append_right (by omega), List.getElem?_append_left (by omega)]
  congr 1; omega
theorem Parts.right (h : Parts p l r q xs a m b) {k : Nat} (hk : k < r.length) : xs[m + k]? = r[k]? := by
  obtain ⟨rfl, rfl, rfl, rfl⟩ := h
  rw [List.append_assoc (p ++ l), List.getElem?_append_right (by simp), List.getElem?_append_left (by simp; omega)]
  congr 1; simp
theorem Parts.len (h : Parts p l r q xs a m b) : b + q.length = xs.length := by obtain ⟨rfl, rfl, rfl, rfl⟩ := h; simp; omega
theorem Parts.l_at (h : Parts p l r q xs a m b) {k : Nat} (h1 : a ≤ k) (h2 : k < m) : l[k - a]? = some (att xs k) := by
  have hm := h.hm
  rw [← h.left (by omega), show a + (k - a) = k by omega]
  exact some_att (by have := h.len; have := h.hb; omega)
theorem Parts.r_at (h : Parts p l r q xs a m b) {k : Nat} (h1 : m ≤ k) (h2 : k < b) : r[k - m]? = some (att xs k) := by
  have hb := h.hb
  rw [← h.right (by omega), show m + (k - m) = k by omega]
  exact some_att (by have := h.len; omega)
/-- Of the three searches: f falls. -/
theorem falls1 (h : Parts p l r q xs a m b) (hr : Srt r) (z : TE) : Falls (fun k => tless (att xs k) z) m b := fun k k' h1 h2 h3 hv =>
  tless_run hr (i := k - m) (j := k' - m) (by omega) (h.r_at h1 (by omega)) (h.r_at (by omega) h3) hv
theorem falls2 (h : Parts p l r q xs a m b) (hl : Srt l) (z : TE) : Falls (fun k => !tless z (att xs k)) a m := fun k k' h1 h2 h3 hv => by
  simp only [Bool.not_eq_true'] at *
  cases hk : tless z (att xs k) with
  | false => rfl
  | true => rw [tless_run' hl (i := k - a) (j := k' - a) (by omega) (h.l_at h1 (by omega)) (h.l_at (by omega) h3) hk] at hv; cases hv
theorem falls3 (h : Parts p l r q xs a m b) (hl : Srt l) (hr : Srt r) {s e n : Nat} (hs : a ≤ s) (he : e ≤ m) (h1 : ∀ c, s ≤ c → c < e → m ≤ n - c ∧ n - c < b ∧ c ≤ n) : Falls (fun k => !tless (att xs (n - k)) (att xs k)) s e := fun k k' g1 g2 g3 hv => by
  simp only [Bool.not_eq_true'] at *
  cases hk : tless (att xs (n - k)) (att xs k) with
  | false => rfl
  | true =>
    have c1 := h1 k g1 (by omega)
    have c2 := h1 k' (by omega) g3
    have e1 := tless_run' hl (i := k - a) (j := k' - a) (by omega) (h.l_at (by omega) (by omega)) (h.l_at (by omega) (by omega)) hk
    have e2 := tless_run hr (i := n - k' - m) (j := n - k - m) (by omega) (h.r_at c2.1 c2.2.1) (h.r_at c1.1 c1.2.1) e1
    rw [e2] at hv; cases hv
/-- The one ahead is brought behind those that are less. -/
theorem merge1 {x : TE} {i : Nat} (h : Parts p [x] r q xs a m b) (hr : Srt r) (ht : ∀ y ∈ r, x.2 < y.2) (hB : BS (fun k => tless (att xs k) x) m b i i) : Merged p [x] r q (p ++ r.take (i - m) ++ [x] ++ r.drop (i - m) ++ q) := by
  refine ⟨r.take (i - m) ++ [x] ++ r.drop (i - m), ?_, ?_, by simp⟩
  · have e : r.take (i - m) ++ r.drop (i - m) = r := List.take_append_drop _ _
    rw [List.append_assoc]
    refine (List.perm_append_comm_assoc _ _ _).trans ?_
    rw [e]
  · have y1 : ∀ z ∈ r.take (i - m), slt z x := fun z hz => by
      obtain ⟨k, hk, rfl⟩ := List.mem_take_iff_getElem.1 hz
      have := hB.yes (m + k) (by omega) (by omega)
      have hb := h.hb
      have g := h.r_at (k := m + k) (by omega) (by omega)
      rw [show m + k - m = k by omega, List.getElem?_eq_getElem (by omega)] at g
      rw [Option.some.inj g]; exact slt_yes this
    have y2 : ∀ z ∈ r.drop (i - m), slt x z := fun z hz => by
      obtain ⟨k, hk, rfl⟩ := List.mem_drop_iff_getElem.1 hz
      have hb := h.hb
      have := hB.no (i + k) (by omega) (by have := hB.le1; omega)
      have g := h.r_at (k := i + k) (by have := hB.le1; omega) (by have := hB.le1; omega)
      rw [show i + k - m = (i - m) + k by have := hB.le1; omega, List.getElem?_eq_getElem (by omega)] at g
      refine slt_no ?_ (ht _ (List.getElem_mem _))
      rw [Option.some.inj g]; exact this
    rw [List.append_assoc]
    refine List.pairwise_append.2 ⟨hr.sublist (List.take_sublist _ _), List.pairwise_cons.2 ⟨y2, hr.sublist (List.drop_sublist _ _)⟩, fun u hu v hv => ?_⟩
    rcases List.mem_cons.1 hv with rfl | hv
    · exact y1 u hu
    · exact slt_trans (y1 u hu) (y2 v hv)
/-- The one behind is brought ahead of those that are more. -/
theorem merge2 {y : TE} {i : Nat} (h : Parts p l [y] q xs a m b) (hl : Srt l) (ht : ∀ x ∈ l, x.2 < y.2) (hB : BS (fun k => !tless y (att xs k)) a m i i) : Merged p l [y] q (p ++ l.take (i - a) ++ [y] ++ l.drop (i - a) ++ q) := by
  refine ⟨l.take (i - a) ++ [y] ++ l.drop (i - a), ?_, ?_, by simp⟩
  · rw [List.append_assoc]
    refine (List.perm_append_comm_assoc _ _ _).trans ?_
    rw [List.take_append_drop]
    exact List.perm_append_comm
  · have hm := h.hm
    have y1 : ∀ z ∈ l.take (i - a), slt z y := fun z hz => by
      obtain ⟨k, hk, rfl⟩ := List.mem_take_iff_getElem.1 hz
      have := hB.yes (a + k) (by omega) (by omega)
      have g := h.l_at (k := a + k) (by omega) (by omega)
      rw [show a + k - a = k by omega, List.getElem?_eq_getElem (by omega)] at g
      refine slt_no ?_ (ht _ (List.getElem_mem _))
      rw [Option.some.inj g]; simpa using this
    have y2 : ∀ z ∈ l.drop (i - a), slt y z := fun z hz => by
      obtain ⟨k, hk, rfl⟩ := List.mem_drop_iff_getElem.1 hz
      have := hB.no (i + k) (by omega) (by have := hB.le1; omega)
      have g := h.l_at (k := i + k) (by have := hB.le1; omega) (by have := hB.le1; omega)
      rw [show i + k - a = (i - a) + k by have := hB.le1; omega, List.getElem?_eq_getElem (by omega)] at g
      rw [Option.some.inj g]; exact slt_yes (by simpa using this)
    rw [List.append_assoc]
    refine List.pairwise_append.2 ⟨hl.sublist (List.take_sublist _ _), List.pairwise_cons.2 ⟨y2, hl.sublist (List.drop_sublist _ _)⟩, fun u hu v hv => ?_⟩
    rcases List.mem_cons.1 hv with rfl | hv
    · exact y1 u hu
    · exact slt_trans (y1 u hu) (y2 v hv)
/-- Where the third search ends: both are cut in two, and the two outer ones are changed. -/
structure Cut (l r l1 l2 r1 r2 : List TE) : Prop where
  el : l = l1 ++ l2
  er : r = r1 ++ r2
  h1 : ∀ x ∈ l1, ∀ y ∈ r2, slt x y
  h2 : ∀ y ∈ r1, ∀ x ∈ l2, slt y x
theorem cut3 (h : Parts p l r q xs a m b) (hl : Srt l) (hr : Srt r) (ht : ∀ x ∈ l, ∀ y ∈ r, x.2 < y.2) {s e c mid : Nat} (hmid : mid = (a + b) / 2) (hse : (mid < m ∧ s + b = mid + m ∧ e = mid) ∨ (m ≤ mid ∧ s = a ∧ e = m))
    (hB : BS (fun k => !tless (att xs (mid + m - 1 - k)) (att xs k)) s e c c) : Cut l r (l.take (c - a)) (l.drop (c - a)) (r.take (mid - c)) (r.drop (mid - c)) := by
  have hm := h.hm
  have hb := h.hb
  have b1 := hB.le1
  have b2 := hB.le3
  refine ⟨(List.take_append_drop _ _).symm, (List.take_append_drop _ _).symm, fun x hx y hy => ?_, fun y hy x hx => ?_⟩
  · obtain ⟨k, hk, rfl⟩ := List.mem_take_iff_getElem.1 hx
    obtain ⟨k', hk', rfl⟩ := List.mem_drop_iff_getElem.1 hy
    by_cases hcs : c = s
    · omega
    · have hv := hB.no
      have := hB.yes (c - 1) (by omega) (by omega)
      simp only [Bool.not_eq_true'] at this
      have gl := h.l_at (k := c - 1) (by omega) (by omega)
      have gr := h.r_at (k := mid + m - 1 - (c - 1)) (by omega) (by omega)
      have e1 : tless (att xs (mid + m - 1 - (c - 1))) l[k] = false := by
        cases hz : tless (att xs (mid + m - 1 - (c - 1))) l[k] with
        | false => rfl
        | true => rw [tless_run' hl (i := k) (j := c - 1 - a) (by omega) (List.getElem?_eq_getElem (by omega)) gl hz] at this; cases this
      refine slt_no ?_ (ht _ (List.getElem_mem _) _ (List.getElem_mem _))
      cases hz : tless r[mid - c + k'] l[k] with
      | false => rfl
      | true => rw [tless_run hr (i := mid + m - 1 - (c - 1) - m) (j := mid - c + k') (by omega) gr (List.getElem?_eq_getElem (by omega)) hz] at e1; cases e1
  · obtain ⟨k, hk, rfl⟩ := List.mem_take_iff_getElem.1 hy
    obtain ⟨k', hk', rfl⟩ := List.mem_drop_iff_getElem.1 hx
    by_cases hce : c = e
    · omega
    · have := hB.no c (by omega) (by omega)
      simp only [Bool.not_eq_false'] at this
      have gl := h.l_at (k := c) (by omega) (by omega)
      have gr := h.r_at (k := mid + m - 1 - c) (by omega) (by omega)
      refine slt_yes ?_
      have e1 := tless_run hr (i := k) (j := mid + m - 1 - c - m) (by omega) (List.getElem?_eq_getElem (by omega)) gr this
      exact tless_run' hl (i := c - a) (j := c - a + k') (by omega) gl (List.getElem?_eq_getElem (by omega)) e1
end
theorem merged_cut {p l r q l1 l2 r1 r2 s1 s2 : List TE} (hl : Srt l) (hr : Srt r) (h : Cut l r l1 l2 r1 r2) (h1 : s1.Perm (l1 ++ r1)) (g1 : Srt s1) (h2 : s2.Perm (l2 ++ r2)) (g2 : Srt s2) : Merged p l r q (p ++ s1 ++ s2 ++ q) := by
  obtain ⟨rfl, rfl, k1, k2⟩ := h
  have hl' := List.pairwise_append.1 hl
  have hr' := List.pairwise_append.1 hr
  refine ⟨s1 ++ s2, ?_, List.pairwise_append.2 ⟨g1, g2, fun x hx y hy => ?_⟩, by simp⟩
  · refine (h1.append h2).trans ?_
    rw [List.append_assoc, List.append_assoc]
    refine List.Perm.append_left _ ?_
    rw [← List.append_assoc, ← List.append_assoc]
    exact (List.perm_append_comm).append_right _
  · rcases List.mem_append.1 (h1.mem_iff.1 hx) with hx | hx <;> rcases List.mem_append.1 (h2.mem_iff.1 hy) with hy | hy
    · exact hl'.2.2 x hx y hy
    · exact k1 x hx y hy
    · exact k2 x hx y hy
    · exact hr'.2.2 x hx y hy
end Go.Proofs.Ytcbdacmdmaoegaa

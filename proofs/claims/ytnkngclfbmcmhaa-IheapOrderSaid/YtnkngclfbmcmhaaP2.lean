import Derived.Test.YtnkngclfbmcmhaaP1
namespace Go.Proofs.Ytnkngclfbmcmhaa
open Go.RowKit Reg Mem

def Sorted (s : List Row) : Prop := s.Pairwise Row.lt
theorem Sorted.nodup {s : List Row} (h : Sorted s) : (s.map (·.key)).Nodup := by
  unfold Sorted at h
  rw [List.Nodup, List.pairwise_map]
  exact h.imp Row.lt_ne
def ins (r : Row) : List Row → List Row
  | [] => [r]
  | a :: l => if r.key.lt a.key then r :: a :: l else a :: ins r l
theorem ins_perm (r : Row) : ∀ l, (ins r l).Perm (r :: l)
  | [] => .refl _
  | a :: l => by
    unfold ins
    split
    · exact .refl _
    · exact ((ins_perm r l).cons a).trans (.swap _ _ _)
theorem ins_sorted (r : Row) : ∀ l, Sorted l → r.key ∉ l.map (·.key) → Sorted (ins r l)
  | [], _, _ => by simp [ins, Sorted]
  | a :: l, h, hk => by
    unfold Sorted at *
    rw [List.pairwise_cons] at h
    simp only [List.map_cons, List.mem_cons, not_or] at hk
    unfold ins
    split
    · rename_i hl
      refine List.pairwise_cons.2 ⟨fun x hx => ?_, List.pairwise_cons.2 h⟩
      rcases List.mem_cons.1 hx with rfl | hx
      · exact hl
      · exact Row.lt_trans hl (h.1 x hx)
    · rename_i hl
      refine List.pairwise_cons.2 ⟨fun x hx => ?_, ins_sorted r l h.2 hk.2⟩
      rcases List.mem_cons.1 ((ins_perm r l).mem_iff.1 hx) with rfl | hx
      · exact Row.lt_of_nlt hl hk.1
      · exact h.1 x hx
theorem ins_length (r : Row) (l : List Row) : (ins r l).length = l.length + 1 := (ins_perm r l).length_eq
theorem filter_perm {r : Row} : ∀ {s : List Row}, r ∈ s → (s.map (·.key)).Nodup → (s.filter (fun x => x.key ≠ r.key) ++ [r]).Perm s
  | [], h, _ => by cases h
  | a :: l, h, hd => by
    rw [List.map_cons, List.nodup_cons] at hd
    by_cases e : a.key = r.key
    · have ha : a = r := by
        rcases List.mem_cons.1 h with h | h
        · exact h.symm
        · exact absurd (e ▸ List.mem_map.2 ⟨r, h, rfl⟩) hd.1
      subst ha
      have : (a :: l).filter (fun x => decide (x.key ≠ a.key)) = l := by
        rw [List.filter_cons_of_neg (by simp), List.filter_eq_self]
        intro x hx
        simp only [decide_eq_true_eq]
        exact fun e => hd.1 (List.mem_map.2 ⟨x, hx, e⟩)
      rw [this]
      exact List.perm_append_singleton a l
    · have hr : r ∈ l := by
        rcases List.mem_cons.1 h with h | h
        · exact absurd (by rw [h]) e
        · exact h
      rw [List.filter_cons_of_pos (by simpa using e), List.cons_append]
      exact (filter_perm hr hd.2).cons a

/-- A heap of these rows, in order; its blocks are among F. -/
def HS (lo : Nat) (F : Nat → Prop) (w : World) (B : Nat) (s : List Row) : Prop :=
  ∃ M v rows, HeapAt lo w B M v rows ∧ F B ∧ F M ∧ (∀ R, v.ownBlock = some R → F R) ∧ (∀ x, F x → lo ≤ x ∧ x < w.heap.size) ∧ Ordered rows ∧ rows.Perm s ∧ Sorted s

theorem own_lt {lo : Nat} {w : World} {v : Value} {rows : List Row} (h : Owns 67 Row.cells 5 lo w v rows) : ∀ R, v.ownBlock = some R → R < w.heap.size ∧ lo ≤ R := by
  intro R hR
  rcases h.2 with ⟨e, _⟩ | ⟨g, cap, cur, e, hl, hg, _⟩
  · rw [e] at hR; simp [Value.ownBlock] at hR
  · rw [e] at hR; simp only [Value.ownBlock, Option.some.injEq] at hR
    subst hR
    exact ⟨(Array.getElem?_eq_some_iff.1 hg).1, hl⟩
theorem HS.keep {lo : Nat} {F : Nat → Prop} {w w' : World} {B : Nat} {s : List Row} {S : Nat → Prop} (h : HS lo F w B s) (hK : Keep S w w') (hd : ∀ x, F x → ¬ S x) : HS lo F w' B s := by
  obtain ⟨M, v, rows, hH, hB, hM, hR, hF, ho, hp, hs⟩ := h
  exact ⟨M, v, rows, hH.keep hK (hd _ hB) (hd _ hM) (fun R e => hd _ (hR R e)), hB, hM, hR, fun x hx => ⟨(hF x hx).1, Nat.lt_of_lt_of_le (hF x hx).2 hK.size⟩, ho, hp, hs⟩
theorem HS.sorted {lo : Nat} {F : Nat → Prop} {w : World} {B : Nat} {s : List Row} (h : HS lo F w B s) : Sorted s := by
  obtain ⟨M, v, rows, hH, hB, hM, hR, hF, ho, hp, hs⟩ := h; exact hs
theorem HS.bound {lo : Nat} {F : Nat → Prop} {w : World} {B : Nat} {s : List Row} (h : HS lo F w B s) : ∀ x, F x → lo ≤ x ∧ x < w.heap.size := by
  obtain ⟨M, v, rows, hH, hB, hM, hR, hF, ho, hp, hs⟩ := h; exact hF
theorem HS.at_ {lo : Nat} {F : Nat → Prop} {w : World} {B : Nat} {s : List Row} (h : HS lo F w B s) : F B := by
  obtain ⟨M, v, rows, hH, hB, hM, hR, hF, ho, hp, hs⟩ := h; exact hB
theorem key_perm {a b : List Row} (h : a.Perm b) (k : Key) : k ∈ a.map (·.key) ↔ k ∈ b.map (·.key) := (h.map (·.key)).mem_iff

/-- What a call leaves of a heap, where it makes no block of the heap's own. -/
def HKept (lo : Nat) (F : Nat → Prop) (B : Nat) (w : World) (s : List Row) (w' : World) : Prop := HS lo F w' B s ∧ Keep F w w'
def HGrown (lo : Nat) (F : Nat → Prop) (B : Nat) (w : World) (s : List Row) (w' : World) : Prop := ∃ F' : Nat → Prop, HS lo F' w' B s ∧ Keep F w w' ∧ ∀ x, F' x → F x ∨ (w.heap.size ≤ x)

theorem hs_new (lo : Nat) (w : World) (hlo : lo ≤ w.heap.size) : Calls Try.prog 9 #[] w fun e w' => e = .returned (.pointer (some ⟨w.heap.size + 1, 0, none⟩)) ∧ HS lo (fun x => w.heap.size ≤ x ∧ x < w.heap.size + 2) w' (w.heap.size + 1) [] ∧ Below w.heap.size w w' := by
  refine (new_calls w).mono ?_
  rintro e w' ⟨he, hsz, hH, hb⟩
  exact ⟨he, ⟨w.heap.size, _, [], hH lo hlo, ⟨by omega, by omega⟩, ⟨by omega, by omega⟩, fun R e => by simp [Value.ownBlock] at e, fun x hx => ⟨by omega, by rw [hsz]; exact hx.2⟩, fun i r p _ hr => by simp at hr, .refl _, List.Pairwise.nil⟩, hb⟩

def PushAns (s : List Row) (r : Row) : Int := if r.key ∈ s.map (·.key) then 13 else 0
def pushed (s : List Row) (r : Row) : List Row := if r.key ∈ s.map (·.key) then s else ins r s
theorem hs_push (lo : Nat) (F : Nat → Prop) (B : Nat) (s : List Row) (a b c d x : Int) (w : World) (h : HS lo F w B s) (hmax : s.length < 4294967296) (hlo : lo ≤ w.heap.size) :
    Calls Try.prog 11 #[.pointer (some ⟨B, 0, none⟩), .agg #[.int .i64 a, .int .i64 b, .int .i64 c, .int .i64 d], .int .i64 x] w fun e w' =>
      e = .returned (.int .i64 (PushAns s ⟨⟨a, b, c, d⟩, x⟩)) ∧ HGrown lo F B w (pushed s ⟨⟨a, b, c, d⟩, x⟩) w' := by
  obtain ⟨M, v, rows, hH, hB, hM, hR, hF, ho, hp, hs⟩ := h
  by_cases hk : (⟨a, b, c, d⟩ : Key) ∈ s.map (·.key)
  · refine (push_there lo B M v rows a b c d x w hH ((key_perm hp _).2 hk)).mono ?_
    rintro e w' ⟨rfl, hb⟩
    refine ⟨by rw [PushAns, if_pos hk], F, ?_, Keep.of_below hb, fun x hx => .inl hx⟩
    rw [pushed, if_pos hk]
    exact HS.keep ⟨M, v, rows, hH, hB, hM, hR, hF, ho, hp, hs⟩ (Keep.of_below (S := fun _ => False) hb) (fun _ _ => id)
  · refine (push_new lo B M v rows a b c d x w hH (fun h => hk ((key_perm hp _).1 h)) (by rw [hp.length_eq]; exact hmax) hlo).mono ?_
    rintro e w' ⟨rfl, v', hH', hK, hfr⟩
    refine ⟨by rw [PushAns, if_neg hk], fun x => F x ∨ v'.ownBlock = some x, ?_, hK.mono (fun y _ h => ?_), fun x hx => ?_⟩
    · rw [pushed, if_neg hk]
      refine ⟨M, v', _, hH', .inl hB, .inl hM, fun R e => .inr e, fun y hy => ?_, push_ordered ho _, ?_, ins_sorted _ _ hs hk⟩
      · rcases hy with hy | hy
        · exact ⟨(hF y hy).1, Nat.lt_of_lt_of_le (hF y hy).2 hK.size⟩
        · exact (own_lt hH'.own y hy).symm
      · refine (hup_perm _ _ _).trans (List.Perm.trans ?_ (ins_perm _ _).symm)
        exact (List.perm_append_singleton _ _).trans (hp.cons _)
    · rintro (e | e | e)
      · exact h (e ▸ hB)
      · exact h (e ▸ hM)
      · exact h (hR _ e)
    · rcases hx with hx | hx
      · exact .inl hx
      · rcases hfr x hx with h | h
        · exact .inl (hR _ h)
        · exact .inr h
theorem head_of {rows s : List Row} (ho : Ordered rows) (hp : rows.Perm s) (hs : Sorted s) {m : Row} (h0 : rows[0]? = some m) : s.head? = some m := by
  cases s with
  | nil => rw [hp.eq_nil] at h0; cases h0
  | cons r s' =>
    have hr : r ∈ rows := hp.mem_iff.2 (by simp)
    obtain ⟨i, hi, he⟩ := List.mem_iff_getElem.1 hr
    have hm := ordered_min ho h0 i r (by rw [List.getElem?_eq_getElem hi, he])
    have hms : m ∈ r :: s' := hp.mem_iff.1 (List.mem_of_getElem? h0)
    rcases List.mem_cons.1 hms with h | h
    · rw [h]; rfl
    · exact absurd ((List.pairwise_cons.1 hs).1 m h) hm
theorem hs_len (lo : Nat) (F : Nat → Prop) (B : Nat) (s : List Row) (w : World) (h : HS lo F w B s) : Calls Try.prog 14 #[.pointer (some ⟨B, 0, none⟩)] w fun e w' => e = .returned (.int .i64 s.length) ∧ w = w' := by
  obtain ⟨M, v, rows, hH, hB, hM, hR, hF, ho, hp, hs⟩ := h
  refine (len_calls lo B M v rows w hH).mono ?_
  rintro e w' ⟨rfl, rfl⟩
  exact ⟨by rw [hp.length_eq], rfl⟩
def noneVal : Value := .tuple #[.agg #[.int .i64 0, .int .i64 0, .int .i64 0, .int .i64 0], .int .i64 0, .int .i64 14]
def someVal (r : Row) : Value := .tuple #[.agg #[.int .i64 r.key.at_, .int .i64 r.key.src, .int .i64 r.key.sent, .int .i64 r.key.no], .int .i64 r.v, .int .i64 0]
def firstVal : List Row → Value
  | [] => noneVal
  | r :: _ => someVal r
theorem hs_first (lo : Nat) (F : Nat → Prop) (B : Nat) (s : List Row) (w : World) (h : HS lo F w B s) : Calls Try.prog 26 #[.pointer (some ⟨B, 0, none⟩)] w fun e w' => e = .returned (firstVal s) ∧ Below w.heap.size w w' := by
  obtain ⟨M, v, rows, hH, hB, hM, hR, hF, ho, hp, hs⟩ := h
  cases rows with
  | nil =>
    obtain rfl : s = [] := hp.symm.eq_nil
    refine (first_none lo B M v w hH).mono ?_
    rintro e w' ⟨rfl, hb⟩
    exact ⟨rfl, hb⟩
  | cons r rows =>
    have hh := head_of ho hp hs (m := r) rfl
    cases s with
    | nil => cases hh
    | cons r' s' =>
      cases hh
      refine (first_some lo B M v r rows w hH).mono ?_
      rintro e w' ⟨rfl, hb⟩
      exact ⟨rfl, hb⟩
theorem filter_sorted {s : List Row} (h : Sorted s) (p : Row → Bool) : Sorted (s.filter p) := List.Pairwise.filter p h
def pulled (s : List Row) (k : Key) : List Row := s.filter (fun x => x.key ≠ k)
def foundVal (s : List Row) (k : Key) : Value :=
  match s.find? (fun x => x.key = k) with
  | some r => .tuple #[.int .i64 r.v, .int .i64 0]
  | none => .tuple #[.int .i64 0, .int .i64 14]
theorem find_key {s : List Row} {r : Row} (hr : r ∈ s) (hd : (s.map (·.key)).Nodup) : s.find? (fun x => x.key = r.key) = some r := by
  induction s with
  | nil => cases hr
  | cons a l ih =>
    rw [List.map_cons, List.nodup_cons] at hd
    rcases List.mem_cons.1 hr with h | h
    · subst h; simp
    · have hne : a.key ≠ r.key := fun e => hd.1 (e ▸ List.mem_map.2 ⟨r, h, rfl⟩)
      rw [List.find?_cons_of_neg (by simpa using hne)]
      exact ih h hd.2
theorem find_none {s : List Row} {k : Key} (h : k ∉ s.map (·.key)) : s.find? (fun x => x.key = k) = none := by
  rw [List.find?_eq_none]
  intro x hx
  simp only [decide_eq_true_eq]
  exact fun e => h (List.mem_map.2 ⟨x, hx, e⟩)
theorem hs_pull (lo : Nat) (F : Nat → Prop) (B : Nat) (s : List Row) (a b c d : Int) (w : World) (h : HS lo F w B s) (hmax : s.length ≤ 4294967296) :
    Calls Try.prog 23 #[.pointer (some ⟨B, 0, none⟩), .agg #[.int .i64 a, .int .i64 b, .int .i64 c, .int .i64 d]] w fun e w' =>
      e = .returned (foundVal s ⟨a, b, c, d⟩) ∧ HKept lo F B w (pulled s ⟨a, b, c, d⟩) w' := by
  obtain ⟨M, v, rows, hH, hB, hM, hR, hF, ho, hp, hs⟩ := h
  by_cases hk : (⟨a, b, c, d⟩ : Key) ∈ s.map (·.key)
  · obtain ⟨r, hr, hrk⟩ := List.mem_map.1 hk
    obtain ⟨i, hi, he⟩ := List.mem_iff_getElem.1 (hp.mem_iff.2 hr)
    have hi' : rows[i]? = some r := by rw [List.getElem?_eq_getElem hi, he]
    have hfk := find_key hr hs.nodup
    obtain ⟨k, x⟩ := r
    simp only at hrk hfk
    subst hrk
    refine (pull_some lo B M i v rows a b c d x w hH hi' (by rw [hp.length_eq]; exact hmax)).mono ?_
    rintro e w' ⟨rfl, v', hH', hK, hv⟩
    refine ⟨by rw [foundVal, hfk], ⟨M, v', _, hH', hB, hM, fun R e => hR R (hv ▸ e), fun y hy => ⟨(hF y hy).1, Nat.lt_of_lt_of_le (hF y hy).2 hK.size⟩, pull_ordered ho hi, ?_, filter_sorted hs _⟩, hK.mono (fun y _ h => ?_)⟩
    · have h1 := cutRow_perm hi'
      have h2 := filter_perm hr hs.nodup
      have h3 : (cutRow rows i).Perm (pulled s ⟨a, b, c, d⟩) := (List.perm_append_right_iff _).1 ((h1.trans hp).trans h2.symm)
      refine List.Perm.trans ?_ h3
      unfold hpull
      split
      · exact .refl _
      · exact (hup_perm _ _ _).trans (hdown_perm _ _ _)
    · rintro (e | e | e)
      · exact h (e ▸ hB)
      · exact h (e ▸ hM)
      · exact h (hR _ e)
  · refine (pull_none lo B M v rows a b c d w hH (fun h => hk ((key_perm hp _).1 h))).mono ?_
    rintro e w' ⟨rfl, hb⟩
    refine ⟨by rw [foundVal, find_none hk], ?_, Keep.of_below hb⟩
    have : pulled s ⟨a, b, c, d⟩ = s := by
      unfold pulled
      rw [List.filter_eq_self]
      intro x hx
      simp only [decide_eq_true_eq]
      exact fun e => hk (List.mem_map.2 ⟨x, hx, e⟩)
    rw [this]
    exact HS.keep ⟨M, v, rows, hH, hB, hM, hR, hF, ho, hp, hs⟩ (Keep.of_below (S := fun _ => False) hb) (fun _ _ => id)
theorem pulled_head {r : Row} {s : List Row} (hs : Sorted (r :: s)) : pulled (r :: s) r.key = s := by
  unfold pulled
  have h := List.pairwise_cons.1 hs
  rw [List.filter_cons_of_neg (by simp), List.filter_eq_self]
  intro x hx
  simp only [decide_eq_true_eq]
  exact fun e => Row.lt_ne (h.1 x hx) e.symm
end Go.Proofs.Ytnkngclfbmcmhaa

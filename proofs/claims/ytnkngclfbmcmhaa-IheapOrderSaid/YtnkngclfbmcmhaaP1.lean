import Derived.Test.YtnkngclfbmcmhaaW6
namespace Go.Proofs.Ytnkngclfbmcmhaa
open Go.RowKit Reg Mem

def Key.ltP (k l : Key) : Prop := k.at_ < l.at_ ∨ (k.at_ = l.at_ ∧ (k.src < l.src ∨ (k.src = l.src ∧ (k.sent < l.sent ∨ (k.sent = l.sent ∧ k.no < l.no)))))
theorem Key.lt_iff (k l : Key) : k.lt l = true ↔ k.ltP l := by
  unfold Key.lt Key.ltP
  split
  · simp only [decide_eq_true_eq]; omega
  · split
    · simp only [decide_eq_true_eq]; omega
    · split
      · simp only [decide_eq_true_eq]; omega
      · simp only [decide_eq_true_eq]; omega
def Row.lt (a b : Row) : Prop := a.key.lt b.key = true
theorem Row.lt_irrefl (a : Row) : ¬ Row.lt a a := by unfold Row.lt; rw [Key.lt_iff]; unfold Key.ltP; omega
theorem Row.lt_trans {a b c : Row} (h : Row.lt a b) (k : Row.lt b c) : Row.lt a c := by
  unfold Row.lt at *; rw [Key.lt_iff] at *; unfold Key.ltP at *; omega
theorem Row.lt_asymm {a b : Row} (h : Row.lt a b) : ¬ Row.lt b a := fun k => Row.lt_irrefl _ (Row.lt_trans h k)
theorem Row.nlt_trans {a b c : Row} (h : ¬ Row.lt a b) (k : ¬ Row.lt b c) : ¬ Row.lt a c := by
  unfold Row.lt at *; rw [Key.lt_iff] at *; unfold Key.ltP at *; omega
theorem Row.lt_of_nlt {a b : Row} (h : ¬ Row.lt a b) (hk : a.key ≠ b.key) : Row.lt b a := by
  unfold Row.lt at *; rw [Key.lt_iff] at *
  obtain ⟨⟨a1, a2, a3, a4⟩, x⟩ := a
  obtain ⟨⟨b1, b2, b3, b4⟩, y⟩ := b
  simp only [ne_eq, Key.mk.injEq] at hk
  unfold Key.ltP at *
  simp only at *
  omega
theorem Row.lt_ne {a b : Row} (h : Row.lt a b) : a.key ≠ b.key := fun e => by unfold Row.lt at h; rw [e] at h; exact Row.lt_irrefl b h
theorem cmp_neg {a b : Key} : Key.cmp a b < 0 ↔ a.lt b = true := by
  unfold Key.cmp
  split
  · simp [*]
  · split <;> simp [*]
theorem cmp_nonneg {a b : Row} (h : Row.lt a b) : Key.cmp a.key b.key = -1 := by unfold Row.lt at h; simp [Key.cmp, h]

def Ordered (rs : List Row) : Prop := ∀ (i : Nat) r p, 0 < i → rs[i]? = some r → rs[(i - 1) / 2]? = some p → ¬ Row.lt r p
def UpInv (rs : List Row) (k : Nat) : Prop :=
  (∀ (i : Nat) r p, 0 < i → i ≠ k → rs[i]? = some r → rs[(i - 1) / 2]? = some p → ¬ Row.lt r p) ∧
  (∀ (c : Nat) r p, 0 < c → 0 < k → (c - 1) / 2 = k → rs[c]? = some r → rs[(k - 1) / 2]? = some p → ¬ Row.lt r p)
def DownInv (rs : List Row) (k : Nat) : Prop :=
  (∀ (i : Nat) r p, 0 < i → (i - 1) / 2 ≠ k → rs[i]? = some r → rs[(i - 1) / 2]? = some p → ¬ Row.lt r p) ∧
  (∀ (c : Nat) r p, 0 < c → 0 < k → (c - 1) / 2 = k → rs[c]? = some r → rs[(k - 1) / 2]? = some p → ¬ Row.lt r p)

theorem hup_ordered : ∀ (f : Nat) (rs : List Row) (k : Nat), k ≤ f → k < rs.length → UpInv rs k → Ordered (hup f rs k) := by
  intro f
  induction f with
  | zero =>
    intro rs k hk hlt h
    obtain rfl : k = 0 := by omega
    intro i r p hi hr hp
    exact h.1 i r p hi (by omega) hr hp
  | succ f ih =>
    intro rs k hk hlt h
    by_cases h0 : 0 < k
    · obtain ⟨r, hr⟩ : ∃ r, rs[k]? = some r := ⟨_, List.getElem?_eq_getElem hlt⟩
      obtain ⟨p, hp⟩ : ∃ r, rs[(k - 1) / 2]? = some r := ⟨_, List.getElem?_eq_getElem (by omega)⟩
      by_cases hl : Key.cmp r.key p.key < 0
      · rw [hup_go hr hp h0 hl (by omega)]
        have hrp : Row.lt r p := cmp_neg.1 hl
        refine ih _ _ (by omega) (by rw [xch_length]; omega) ⟨?_, ?_⟩
        · intro i x y hi hne hx hy
          rw [xch_get hr hp] at hx hy
          rw [if_neg hne] at hx
          by_cases hik : i = k
          · rw [if_pos hik] at hx
            subst hik
            rw [if_pos rfl] at hy
            cases hx; cases hy
            exact Row.lt_asymm hrp
          · rw [if_neg hik] at hx
            by_cases h1 : (i - 1) / 2 = (k - 1) / 2
            · rw [if_pos h1] at hy
              cases hy
              have h2 := h.1 i x p hi hik hx (by rw [h1]; exact hp)
              exact fun h3 => h2 (Row.lt_trans h3 hrp)
            · rw [if_neg h1] at hy
              by_cases h2 : (i - 1) / 2 = k
              · rw [if_pos h2] at hy
                cases hy
                exact h.2 i x p hi h0 h2 hx hp
              · rw [if_neg h2] at hy
                exact h.1 i x y hi hik hx hy
        · intro c x y hc hpos hcp hx hy
          rw [xch_get hr hp] at hx hy
          rw [if_neg (by omega), if_neg (by omega)] at hy
          rw [if_neg (by omega)] at hx
          have hpy := h.1 ((k - 1) / 2) p y hpos (by omega) hp hy
          by_cases hck : c = k
          · rw [if_pos hck] at hx
            cases hx
            exact hpy
          · rw [if_neg hck] at hx
            exact Row.nlt_trans (h.1 c x p hc hck hx (by rw [hcp]; exact hp)) hpy
      · rw [hup_stop hr hp (.inr hl)]
        intro i x y hi hx hy
        by_cases hik : i = k
        · subst hik
          rw [hr] at hx; rw [hp] at hy
          cases hx; cases hy
          exact fun h3 => hl (cmp_neg.2 h3)
        · exact h.1 i x y hi hik hx hy
    · obtain rfl : k = 0 := by omega
      have : hup (f + 1) rs 0 = rs := by simp [hup]
      rw [this]
      intro i r p hi hr hp
      exact h.1 i r p hi (by omega) hr hp

theorem hcand_get {rs : List Row} {c j : Nat} {x : Row} (hc : rs[c]? = some x) : ∃ z, rs[hcand rs c j]? = some z ∧ ¬ Row.lt x z ∧ (∀ y, rs[j]? = some y → ¬ Row.lt y z) ∧ (hcand rs c j = c ∨ (hcand rs c j = j ∧ Row.lt z x)) := by
  unfold hcand
  rw [hc]
  cases hj : rs[j]? with
  | none => exact ⟨x, hc, Row.lt_irrefl x, fun y h => (by cases h), .inl rfl⟩
  | some y =>
    simp only
    by_cases hl : Key.cmp y.key x.key < 0
    · rw [if_pos hl]
      have hyx : Row.lt y x := cmp_neg.1 hl
      exact ⟨y, hj, Row.lt_asymm hyx, fun z hz => by cases hz; exact Row.lt_irrefl y, .inr ⟨rfl, hyx⟩⟩
    · rw [if_neg hl]
      exact ⟨x, hc, Row.lt_irrefl x, fun z hz => by cases hz; exact fun h => hl (cmp_neg.2 h), .inl rfl⟩
theorem stage_min {rs : List Row} {k : Nat} {r : Row} (hk : rs[k]? = some r) : ∃ z, rs[stage rs k 2]? = some z ∧ ¬ Row.lt r z ∧ (∀ (i : Nat) y, 0 < i → (i - 1) / 2 = k → rs[i]? = some y → ¬ Row.lt y z) ∧
    (stage rs k 2 = k ∨ (0 < stage rs k 2 ∧ (stage rs k 2 - 1) / 2 = k ∧ Row.lt z r)) := by
  obtain ⟨z1, h1, h2, h3, h4⟩ := hcand_get (j := 2 * k + 1) hk
  obtain ⟨z2, g1, g2, g3, g4⟩ := hcand_get (j := 2 * k + 2) h1
  have e : stage rs k 2 = hcand rs (hcand rs k (2 * k + 1)) (2 * k + 2) := rfl
  rw [e]
  refine ⟨z2, g1, Row.nlt_trans h2 g2, ?_, ?_⟩
  · intro i y hi hik hy
    rcases (show i = 2 * k + 1 ∨ i = 2 * k + 2 by omega) with rfl | rfl
    · exact Row.nlt_trans (h3 y hy) g2
    · exact g3 y hy
  · rcases g4 with g4 | ⟨g4, g5⟩
    · rw [g4]
      rw [g4] at g1
      rw [g1] at h1
      cases h1
      rcases h4 with h4 | ⟨h4, h5⟩
      · exact .inl h4
      · right; rw [h4]; exact ⟨by omega, by omega, h5⟩
    · right
      rw [g4]
      refine ⟨by omega, by omega, ?_⟩
      rcases h4 with h4 | ⟨h4, h5⟩
      · rw [h4, hk] at h1; cases h1; exact g5
      · exact Row.lt_trans g5 h5

theorem hdown_ordered : ∀ (f : Nat) (rs : List Row) (k : Nat), rs.length ≤ k + f → k < rs.length → DownInv rs k → Ordered (hdown f rs k) := by
  intro f
  induction f with
  | zero => intro rs k h1 h2; omega
  | succ f ih =>
    intro rs k hf hlt h
    obtain ⟨r, hr⟩ : ∃ r, rs[k]? = some r := ⟨_, List.getElem?_eq_getElem hlt⟩
    obtain ⟨z, hz, hrz, hmin, hcase⟩ := stage_min hr
    by_cases hs : stage rs k 2 = k
    · rw [hdown_stop hs]
      rw [hs, hr] at hz
      cases hz
      intro i x y hi hx hy
      by_cases hik : (i - 1) / 2 = k
      · rw [hik, hr] at hy
        cases hy
        exact hmin i x hi hik hx
      · exact h.1 i x y hi hik hx hy
    · obtain ⟨hs0, hsp, hzr⟩ := hcase.resolve_left hs
      rw [hdown_go hs hr hz (by omega)]
      generalize stage rs k 2 = s at *
      have hsl := (List.getElem?_eq_some_iff.1 hz).1
      refine ih _ _ (by rw [xch_length]; omega) (by rw [xch_length]; exact hsl) ⟨?_, ?_⟩
      · intro i x y hi hne hx hy
        rw [xch_get hr hz] at hx hy
        rw [if_neg hne] at hy
        by_cases hik : (i - 1) / 2 = k
        · rw [if_pos hik] at hy
          cases hy
          by_cases his : i = s
          · rw [if_pos his] at hx; cases hx; exact Row.lt_asymm hzr
          · rw [if_neg his, if_neg (by omega)] at hx
            exact hmin i x hi hik hx
        · rw [if_neg hik] at hy
          rw [if_neg (by rintro rfl; exact hik hsp)] at hx
          by_cases h2 : i = k
          · rw [if_pos h2] at hx
            cases hx
            subst h2
            exact h.2 s z y hs0 hi hsp hz hy
          · rw [if_neg h2] at hx
            exact h.1 i x y hi hik hx hy
      · intro c x y hc hs1 hcs hx hy
        rw [xch_get hr hz] at hx hy
        rw [if_neg (by omega), if_pos hsp] at hy
        rw [if_neg (by omega), if_neg (by omega)] at hx
        cases hy
        exact h.1 c x z hc (by omega) hx (by rw [hcs]; exact hz)

theorem ordered_min {rs : List Row} (h : Ordered rs) {m : Row} (h0 : rs[0]? = some m) : ∀ (i : Nat) r, rs[i]? = some r → ¬ Row.lt r m := by
  intro i
  induction i using Nat.strongRecOn with
  | ind i ih =>
    intro r hr
    by_cases hi : i = 0
    · subst hi; rw [h0] at hr; cases hr; exact Row.lt_irrefl _
    · obtain ⟨p, hp⟩ : ∃ p, rs[(i - 1) / 2]? = some p := ⟨_, List.getElem?_eq_getElem (by have := (List.getElem?_eq_some_iff.1 hr).1; omega)⟩
      exact Row.nlt_trans (h i r p (by omega) hr hp) (ih _ (by omega) p hp)
theorem push_ordered {rs : List Row} (h : Ordered rs) (r : Row) : Ordered (hup rs.length (rs ++ [r]) rs.length) := by
  refine hup_ordered _ _ _ (Nat.le_refl _) (by simp) ⟨?_, ?_⟩
  · intro i x p hi hne hx hp
    have hil : i < rs.length := by have := (List.getElem?_eq_some_iff.1 hx).1; simp at this; omega
    rw [List.getElem?_append_left hil] at hx
    rw [List.getElem?_append_left (by omega)] at hp
    exact h i x p hi hx hp
  · intro c x p hc hk hcp hx hp
    have := (List.getElem?_eq_some_iff.1 hx).1
    simp at this
    omega
theorem pull_ordered {rs : List Row} (h : Ordered rs) {i : Nat} (hi : i < rs.length) : Ordered (hpull rs i) := by
  obtain ⟨m, hm⟩ : ∃ m, rs.length = m + 1 := ⟨rs.length - 1, by omega⟩
  obtain ⟨l, hl⟩ : ∃ l, rs[m]? = some l := ⟨_, List.getElem?_eq_getElem (by omega)⟩
  have hget : ∀ (j : Nat), j < m → (rs.take m)[j]? = rs[j]? := fun j hj => by rw [List.getElem?_take, if_pos hj]
  unfold hpull
  by_cases him : i = m
  · rw [if_pos (by omega), him, cutRow_last hm]
    intro j x p hj hx hp
    have := (List.getElem?_eq_some_iff.1 hx).1
    rw [List.length_take] at this
    rw [hget j (by omega)] at hx
    rw [hget _ (by omega)] at hp
    exact h j x p hj hx hp
  · rw [if_neg (by omega), cutRow_set hm hl him, show rs.length - 1 = m by omega]
    have hlen : ((rs.take m).set i l).length = m := by rw [List.length_set, List.length_take]; omega
    have hg : ∀ (j : Nat), j < m → ((rs.take m).set i l)[j]? = if j = i then some l else rs[j]? := fun j hj => by
      rw [List.getElem?_set]
      by_cases e : i = j
      · rw [if_pos e, if_pos e.symm, if_pos (by rw [List.length_take]; omega)]
      · rw [if_neg e, if_neg (fun h => e h.symm), hget j hj]
    generalize (rs.take m).set i l = cs at hlen hg
    have hb : ∀ (j : Nat) x, cs[j]? = some x → j < m := fun j x hx => by have := (List.getElem?_eq_some_iff.1 hx).1; omega
    have old : ∀ (j : Nat) x p, 0 < j → j ≠ i → (j - 1) / 2 ≠ i → cs[j]? = some x → cs[(j - 1) / 2]? = some p → ¬ Row.lt x p := by
      intro j x p hj h1 h2 hx hp
      rw [hg j (hb j x hx), if_neg h1] at hx
      rw [hg _ (hb _ p hp), if_neg h2] at hp
      exact h j x p hj hx hp
    have grand : ∀ (c : Nat) x p, 0 < c → 0 < i → (c - 1) / 2 = i → cs[c]? = some x → cs[(i - 1) / 2]? = some p → ¬ Row.lt x p := by
      intro c x p hc hi0 hci hx hp
      rw [hg c (hb c x hx), if_neg (by omega)] at hx
      rw [hg _ (hb _ p hp), if_neg (by omega)] at hp
      obtain ⟨q, hq⟩ : ∃ q, rs[i]? = some q := ⟨_, List.getElem?_eq_getElem hi⟩
      exact Row.nlt_trans (h c x q hc hx (by rw [hci]; exact hq)) (h i q p hi0 hq hp)
    have hci : cs[i]? = some l := by rw [hg i (by omega), if_pos rfl]
    by_cases hA : 0 < i ∧ ∃ p, cs[(i - 1) / 2]? = some p ∧ Row.lt l p
    · obtain ⟨hi0, p, hp, hlp⟩ := hA
      have hstop : stage cs i 2 = i := by
        obtain ⟨z, hz, _, _, hcase⟩ := stage_min hci
        refine hcase.resolve_right ?_
        rintro ⟨h1, h2, h3⟩
        exact grand _ z p h1 hi0 h2 hz hp (Row.lt_trans h3 hlp)
      rw [hdown_stop hstop]
      refine hup_ordered _ _ _ (Nat.le_refl _) (by omega) ⟨?_, grand⟩
      intro j x y hj hne hx hy
      by_cases h2 : (j - 1) / 2 = i
      · rw [h2, hci] at hy
        cases hy
        exact fun h3 => grand j x p hj hi0 h2 hx hp (Row.lt_trans h3 hlp)
      · exact old j x y hj hne h2 hx hy
    · have hord : Ordered (hdown m cs i) := by
        refine hdown_ordered _ _ _ (by omega) (by omega) ⟨?_, grand⟩
        intro j x y hj hne hx hy
        by_cases h1 : j = i
        · subst h1
          rw [hci] at hx
          cases hx
          exact fun h3 => hA ⟨hj, y, hy, h3⟩
        · exact old j x y hj h1 hne hx hy
      have hdl := (hdown_perm m cs i).length_eq
      generalize hdown m cs i = ds at hord hdl
      obtain ⟨r, hr⟩ : ∃ r, ds[i]? = some r := ⟨_, List.getElem?_eq_getElem (by omega)⟩
      obtain ⟨p, hp⟩ : ∃ r, ds[(i - 1) / 2]? = some r := ⟨_, List.getElem?_eq_getElem (by omega)⟩
      rw [hup_stop hr hp ?_]
      · exact hord
      · by_cases h0 : i = 0
        · exact .inl h0
        · exact .inr fun h3 => hord i r p (by omega) hr hp (cmp_neg.1 h3)
end Go.Proofs.Ytnkngclfbmcmhaa

import Derived.Test.YtejdfgonkfgnfaaDoorD1
import Derived.Test.YtejdfgonkfgnfaaDoorModP
/- Plain: the events that are there at first, in order. No program in sight. -/
namespace Go.Proofs.YtejdfgonkfgnfaaDoor
open Go Go.RowKit Mem

def evsOf (c : Cfg) : List Event := sortE (startsFrom 0 c.starts)
theorem evsOf_len (c : Cfg) : (evsOf c).length = c.starts.length := by rw [evsOf, sortE_len, startsFrom_len]
theorem startsFrom_get (l : List Start) (i k : Nat) : (startsFrom i l)[k]? = (l[k]?).map (startEv (i + k)) := by
  induction l generalizing i k with
  | nil => simp [startsFrom]
  | cons x l ih =>
    cases k with
    | zero => simp [startsFrom]
    | succ k => simp only [startsFrom, List.getElem?_cons_succ, ih]; rw [show i + 1 + k = i + (k + 1) by omega]
theorem startsFrom_nos (l : List Start) (i : Nat) : (startsFrom i l).Pairwise fun a b => a.key.no < b.key.no := by
  rw [List.pairwise_iff_getElem]
  intro p q hp hq hpq
  have e1 := startsFrom_get l i p
  have e2 := startsFrom_get l i q
  rw [startsFrom_len] at hp hq
  rw [List.getElem?_eq_getElem (by rw [startsFrom_len]; exact hp), List.getElem?_eq_getElem hp] at e1
  rw [List.getElem?_eq_getElem (by rw [startsFrom_len]; exact hq), List.getElem?_eq_getElem hq] at e2
  simp only [Option.map_some, Option.some.injEq] at e1 e2
  rw [e1, e2]
  simp only [startEv]
  omega
theorem evs_nodup (c : Cfg) : ((evsOf c).map (·.key.no)).Nodup := by
  have h1 : ((startsFrom 0 c.starts).map (·.key.no)).Nodup := by
    rw [List.Nodup, List.pairwise_map]
    exact (startsFrom_nos c.starts 0).imp fun h => by omega
  exact ((sortE_perm (startsFrom 0 c.starts)).map (·.key.no)).nodup_iff.2 h1
theorem evs_apart (c : Cfg) {i j : Nat} {x y : Event} (hi : (evsOf c)[i]? = some x) (hj : (evsOf c)[j]? = some y) (hn : i ≠ j) : x.key.no ≠ y.key.no := fun e => by
  have h1 : ((evsOf c).map (·.key.no))[i]? = some x.key.no := by rw [List.getElem?_map, hi]; rfl
  have h2 : ((evsOf c).map (·.key.no))[j]? = some x.key.no := by rw [List.getElem?_map, hj, e]; rfl
  obtain ⟨g1, k1⟩ := List.getElem?_eq_some_iff.1 h1
  obtain ⟨g2, k2⟩ := List.getElem?_eq_some_iff.1 h2
  exact hn ((List.getElem_inj (evs_nodup c)).1 (k1.trans k2.symm))
theorem slt_rise {x y : TE} (h : slt x y) : y.1.key.lt x.1.key = false := by
  simp only [slt, tless, Bool.eq_false_iff, ne_eq, Key.lt_iff] at *; omega
theorem sortE_rise (l : List Event) : (sortE l).Pairwise fun a b => b.key.lt a.key = false := by
  obtain ⟨ys, _, h2, h3⟩ := sortE_ex l
  rw [← h3]
  exact List.pairwise_map.2 (h2.imp fun h => slt_rise h)
theorem evs_cmp (c : Cfg) {i : Nat} {x y : Event} (hi : (evsOf c)[i]? = some x) (hj : (evsOf c)[i + 1]? = some y) : x.key.cmp y.key = -1 := by
  have hn := evs_apart c hi hj (by omega)
  obtain ⟨g1, k1⟩ := List.getElem?_eq_some_iff.1 hi
  obtain ⟨g2, k2⟩ := List.getElem?_eq_some_iff.1 hj
  have hr : y.key.lt x.key = false := by
    have := List.pairwise_iff_getElem.1 (sortE_rise (startsFrom 0 c.starts)) i (i + 1) g1 g2 (by omega)
    rw [← k1, ← k2]; exact this
  unfold Key.cmp
  rw [if_pos]
  cases h : x.key.lt y.key with
  | true => rfl
  | false => exact absurd (congrArg Key.no (Key.eq_of h hr)) hn
/-- A configuration that may be. -/
structure CfgOk (c : Cfg) : Prop where
  sizes : sizesOk c
  starts : c.starts.length ≤ 256
  progs : ∀ p ∈ c.programs, codeE p = 0
  lps : ∀ p ∈ c.lps, 0 ≤ p.program ∧ p.program < c.programs.length
  dst : ∀ s ∈ c.starts, 0 ≤ s.dst ∧ s.dst < c.lps.length
  at_ : ∀ s ∈ c.starts, 0 ≤ s.at_ ∧ s.at_ ≤ c.fin
theorem cfg_ok {c : Cfg} : cfgE c = 0 ↔ CfgOk c := by
  unfold cfgE
  rw [firstE_zero]
  simp only [List.mem_cons, List.not_mem_nil, or_false, forall_eq_or_imp, forall_eq]
  constructor
  · rintro ⟨h1, h2, h3, h4, h5⟩
    unfold sizesE at h1; unfold startsE at h2; unfold programsE at h3; unfold endsE at h4; unfold timesE at h5
    split at h1
    · split at h2
      · cases h2
      · split at h4
        · split at h5
          · rename_i a1 a2 a3 a4
            exact ⟨a1, by omega, fun p hp => firstE_zero.1 h3 _ (List.mem_map_of_mem hp), a3.1, a3.2, a4⟩
          · cases h5
        · cases h4
    · cases h1
  · rintro ⟨h1, h2, h3, h4, h5, h6⟩
    exact ⟨if_pos h1, if_neg (by omega), firstE_zero.2 (fun x hx => by obtain ⟨p, hp, rfl⟩ := List.mem_map.1 hx; exact h3 p hp), if_pos ⟨h4, h5⟩, if_pos h6⟩
theorem evs_at {c : Cfg} (h : CfgOk c) {j : Nat} (hj : j < c.starts.length) : ∃ t n d kd dt : Int, (evsOf c)[j]? = some ⟨⟨t, -1, -1, n⟩, d, kd, dt⟩ ∧ 0 ≤ t ∧ t ≤ c.fin ∧ 0 ≤ d ∧ d < c.lps.length ∧ chk ⟨⟨t, -1, -1, n⟩, d, kd, dt⟩ = 0 := by
  obtain ⟨x, hx⟩ : ∃ x, (evsOf c)[j]? = some x := ⟨_, List.getElem?_eq_getElem (by rw [evsOf_len]; exact hj)⟩
  have hm : x ∈ startsFrom 0 c.starts := (sortE_perm _).mem_iff.1 (List.mem_of_getElem? hx)
  obtain ⟨k, hk, e⟩ := List.mem_iff_getElem.1 hm
  have e1 := startsFrom_get c.starts 0 k
  have hks : k < c.starts.length := by rw [← startsFrom_len c.starts 0]; exact hk
  rw [List.getElem?_eq_getElem hk, List.getElem?_eq_getElem hks] at e1
  simp only [Option.map_some, Option.some.injEq, Nat.zero_add] at e1
  rw [e] at e1
  have hs := List.getElem_mem hks
  generalize c.starts[k] = s at *
  subst e1
  have h1 := h.at_ s hs
  have h2 := h.dst s hs
  have h3 := h.sizes
  have h4 := h.starts
  refine ⟨s.at_, k, s.dst, s.kind, s.data, hx, h1.1, h1.2, h2.1, h2.2, ?_⟩
  unfold sizesOk at h3
  exact chk_ok (by simp only; omega) (by simp only; omega)
end Go.Proofs.YtejdfgonkfgnfaaDoor

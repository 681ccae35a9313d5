import Derived.Test.YtejdfgonkfgnfaaDoorEvP
/- Plain: one event more at first. No program in sight. -/
namespace Go.Proofs.YtejdfgonkfgnfaaDoor
open Go Go.RowKit Mem

def more (c : Cfg) (x : Start) : Cfg := { c with starts := c.starts ++ [x] }
theorem more_events (c : Cfg) (x : Start) : startsFrom 0 (more c x).starts = startsFrom 0 c.starts ++ [startEv c.starts.length x] := by
  simp [more, startsFrom_append, startsFrom]
theorem sorted_eq {l m : List Event} (hp : l.Perm m) (hd : (l.map (·.key.no)).Nodup) (hl : l.Pairwise fun a b => b.key.lt a.key = false) (hm : m.Pairwise fun a b => b.key.lt a.key = false) : l = m := by
  refine List.Perm.eq_of_pairwise (fun a b ha hb h1 h2 => ?_) hl hm hp
  have hk : a.key = b.key := Key.eq_of h2 h1
  have hb' := hp.mem_iff.2 hb
  obtain ⟨i, hi, e1⟩ := List.mem_iff_getElem.1 ha
  obtain ⟨j, hj, e2⟩ := List.mem_iff_getElem.1 hb'
  have hij : i = j := (List.getElem_inj (h₀ := by simpa using hi) (h₁ := by simpa using hj) hd).1 (by simp [e1, e2, hk])
  subst hij
  rw [← e1, ← e2]
theorem no_lt {c : Cfg} {e : Event} (h : e ∈ startsFrom 0 c.starts) : ∃ (k : Nat) (s : Start), c.starts[k]? = some s ∧ e = startEv k s := by
  obtain ⟨k, hk, rfl⟩ := List.mem_iff_getElem.1 h
  have e1 := startsFrom_get c.starts 0 k
  have hks : k < c.starts.length := by rw [← startsFrom_len c.starts 0]; exact hk
  rw [List.getElem?_eq_getElem hk, List.getElem?_eq_getElem hks] at e1
  simp only [Option.map_some, Option.some.injEq, Nat.zero_add] at e1
  exact ⟨k, _, List.getElem?_eq_getElem hks, e1⟩
theorem more_rest (c : Cfg) (x : Start) : (evsOf (more c x)).filter (fun e : Event => decide (e.key.no ≠ (c.starts.length : Int))) = evsOf c := by
  have hf : (startsFrom 0 (more c x).starts).filter (fun e : Event => decide (e.key.no ≠ (c.starts.length : Int))) = startsFrom 0 c.starts := by
    rw [more_events, List.filter_append]
    have h1 : (startsFrom 0 c.starts).filter (fun e : Event => decide (e.key.no ≠ (c.starts.length : Int))) = startsFrom 0 c.starts := by
      rw [List.filter_eq_self]
      intro e he
      obtain ⟨k, s, hk, rfl⟩ := no_lt he
      have := (List.getElem?_eq_some_iff.1 hk).1
      have hn : ((k : Nat) : Int) ≠ (c.starts.length : Int) := by omega
      exact decide_eq_true hn
    have h2 : [startEv c.starts.length x].filter (fun e : Event => decide (e.key.no ≠ (c.starts.length : Int))) = [] := by simp [startEv]
    rw [h1, h2, List.append_nil]
  have hp : ((evsOf (more c x)).filter (fun e : Event => decide (e.key.no ≠ (c.starts.length : Int)))).Perm (evsOf c) := by
    have h1 := (sortE_perm (startsFrom 0 (more c x).starts)).filter (fun e : Event => decide (e.key.no ≠ (c.starts.length : Int)))
    rw [hf] at h1
    exact h1.trans (sortE_perm _).symm
  refine sorted_eq hp ?_ ?_ (sortE_rise _)
  · exact (hp.map (·.key.no)).nodup_iff.2 (evs_nodup c)
  · exact (sortE_rise _).filter _
theorem more_at {c : Cfg} {x : Start} {e : Event} (he : e ∈ evsOf (more c x)) (hn : e.key.no = c.starts.length) : e = startEv c.starts.length x := by
  have hm : e ∈ startsFrom 0 (more c x).starts := (sortE_perm _).mem_iff.1 he
  rw [more_events, List.mem_append] at hm
  rcases hm with hm | hm
  · obtain ⟨k, s, hk, rfl⟩ := no_lt hm
    have := (List.getElem?_eq_some_iff.1 hk).1
    simp only [startEv] at hn; omega
  · simpa using hm
theorem more_ok {c : Cfg} {x : Start} (h : CfgOk c) : (cfgE (more c x) = 0 ∧ c.starts.length < 256) ∨ (c.starts.length = 256 ∧ cfgE (more c x) = 11) ∨
    ((x.dst < 0 ∨ c.lps.length ≤ x.dst) ∧ cfgE (more c x) = 14) ∨ ((x.at_ < 0 ∨ c.fin < x.at_) ∧ cfgE (more c x) = 18) := by
  have h1 : sizesE (more c x) = 0 := if_pos h.sizes
  have h3 : programsE (more c x) = 0 := firstE_zero.2 (fun y hy => by obtain ⟨p, hp, rfl⟩ := List.mem_map.1 hy; exact h.progs p hp)
  have hs := h.starts
  unfold cfgE
  rw [h1, h3]
  by_cases g1 : c.starts.length = 256
  · refine .inr (.inl ⟨g1, ?_⟩)
    have : startsE (more c x) = 11 := if_pos (by simp [more]; omega)
    rw [this]; rfl
  have h2 : startsE (more c x) = 0 := if_neg (by simp [more]; omega)
  rw [h2]
  by_cases g2 : x.dst < 0 ∨ c.lps.length ≤ x.dst
  · refine .inr (.inr (.inl ⟨g2, ?_⟩))
    have : endsE (more c x) = 14 := if_neg (by
      rintro ⟨_, hh⟩
      have := hh x (by simp [more])
      simp only [more] at this
      omega)
    rw [this]; rfl
  have h4 : endsE (more c x) = 0 := if_pos ⟨h.lps, fun s hs => by
    rcases List.mem_append.1 (show s ∈ c.starts ++ [x] from hs) with hs | hs
    · exact h.dst s hs
    · obtain rfl : s = x := by simpa using hs
      simp only [more]; omega⟩
  rw [h4]
  by_cases g3 : x.at_ < 0 ∨ c.fin < x.at_
  · refine .inr (.inr (.inr ⟨g3, ?_⟩))
    have : timesE (more c x) = 18 := if_neg (by
      intro hh
      have := hh x (by simp [more])
      simp only [more] at this
      omega)
    rw [this]; rfl
  have h5 : timesE (more c x) = 0 := if_pos fun s hs => by
    rcases List.mem_append.1 (show s ∈ c.starts ++ [x] from hs) with hs | hs
    · exact h.at_ s hs
    · obtain rfl : s = x := by simpa using hs
      simp only [more]; omega
  rw [h5]
  exact .inl ⟨rfl, by omega⟩
end Go.Proofs.YtejdfgonkfgnfaaDoor

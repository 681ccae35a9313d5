import Derived.Test.YtcbdacmdmaoegaaW1
import Derived.Test.YtcbdacmdmaoegaaMem
/- Plain facts about messages that undo one another: no program in sight. -/
namespace Go.Proofs.Ytcbdacmdmaoegaa

structure Event where
  key : Key
  dst : Int
  kind : Int
  data : Int
  deriving DecidableEq
structure Message where
  ev : Event
  anti : Bool
  deriving DecidableEq
instance : Inhabited Key := ⟨⟨0, 0, 0, 0⟩⟩
instance : Inhabited Event := ⟨⟨default, 0, 0, 0⟩⟩
instance : Inhabited Message := ⟨⟨default, false⟩⟩
def Event.cells (e : Event) : List Value := [.int .i64 e.key.at_, .int .i64 e.key.src, .int .i64 e.key.sent, .int .i64 e.key.no, .int .i64 e.dst, .int .i64 e.kind, .int .i64 e.data]
def Message.cells (m : Message) : List Value := [.int .i64 m.ev.key.at_, .int .i64 m.ev.key.src, .int .i64 m.ev.key.sent, .int .i64 m.ev.key.no, .int .i64 m.ev.dst, .int .i64 m.ev.kind, .int .i64 m.ev.data, .bool m.anti]
def meets (a b : Message) : Bool := (a.anti != b.anti) && decide (a.ev = b.ev)
def sameId (a b : Event) : Bool := (a.key.src == b.key.src) && (a.key.sent == b.key.sent) && (a.key.no == b.key.no)
theorem sameId_iff {a b : Event} : sameId a b = true ↔ a.key.src = b.key.src ∧ a.key.sent = b.key.sent ∧ a.key.no = b.key.no := by
  simp [sameId, and_assoc]
theorem sameId_symm {a b : Event} (h : sameId a b = true) : sameId b a = true := by rw [sameId_iff] at *; exact ⟨h.1.symm, h.2.1.symm, h.2.2.symm⟩
theorem sameId_trans {a b c : Event} (h : sameId a b = true) (k : sameId b c = true) : sameId a c = true := by
  rw [sameId_iff] at *; exact ⟨h.1.trans k.1, h.2.1.trans k.2.1, h.2.2.trans k.2.2⟩
theorem sameId_refl (a : Event) : sameId a a = true := by rw [sameId_iff]; exact ⟨rfl, rfl, rfl⟩
theorem meets_symm {a b : Message} (h : meets a b = true) : meets b a = true := by
  simp only [meets, Bool.and_eq_true, bne_iff_ne, decide_eq_true_eq] at *; exact ⟨Ne.symm h.1, h.2.symm⟩
theorem meets_three {a b c : Message} (h : meets a b = true) (k : meets a c = true) : meets b c = false := by
  simp only [meets, Bool.and_eq_true, bne_iff_ne, decide_eq_true_eq] at *
  have : b.anti = c.anti := by have h1 := h.1; have h2 := k.1; revert h1 h2; cases a.anti <;> cases b.anti <;> cases c.anti <;> simp
  simp [this]
theorem meets_id {a b : Message} (h : meets a b = true) : sameId a.ev b.ev = true := by
  simp only [meets, Bool.and_eq_true, decide_eq_true_eq] at h; rw [h.2]; exact sameId_refl _

/-- Two of one ID do not undo one another. -/
def Bad (l : List Message) : Prop := ∃ (i k : Nat) (a b : Message), i ≠ k ∧ l[i]? = some a ∧ l[k]? = some b ∧ sameId a.ev b.ev = true ∧ meets a b = false
/-- No other one has the ID of the one at this place. -/
def Alone (l : List Message) (i : Nat) : Prop := ∀ (k : Nat) (a b : Message), k ≠ i → l[i]? = some a → l[k]? = some b → sameId a.ev b.ev = false

/-- The places by IDs: those of one ID side by side. -/
structure Places (l : List Message) (p : List Nat) : Prop where
  perm : p.Perm (List.range l.length)
  near : ∀ (q r s : Nat) (x y z : Nat) (a b c : Message), q < r → r < s → p[q]? = some x → p[r]? = some y → p[s]? = some z → l[x]? = some a → l[y]? = some b → l[z]? = some c → sameId a.ev c.ev = true → sameId a.ev b.ev = true
theorem Places.lt {l : List Message} {p : List Nat} (h : Places l p) {q x : Nat} (hq : p[q]? = some x) : x < l.length := by
  have := h.perm.mem_iff.1 (List.mem_of_getElem? hq)
  simpa using this
theorem Places.inj {l : List Message} {p : List Nat} (h : Places l p) {q r x : Nat} (hq : p[q]? = some x) (hr : p[r]? = some x) : q = r := by
  have hn : p.Nodup := h.perm.nodup_iff.2 List.nodup_range
  obtain ⟨h1, h2⟩ := List.getElem?_eq_some_iff.1 hq
  obtain ⟨h3, h4⟩ := List.getElem?_eq_some_iff.1 hr
  exact (List.getElem_inj hn).1 (h2.trans h4.symm)
theorem Places.len {l : List Message} {p : List Nat} (h : Places l p) : p.length = l.length := by rw [h.perm.length_eq, List.length_range]
theorem Places.at_ {l : List Message} {p : List Nat} (h : Places l p) {x : Nat} (hx : x < l.length) : ∃ q : Nat, p[q]? = some x := by
  have := h.perm.mem_iff.2 (List.mem_range.2 hx)
  obtain ⟨q, hq, e⟩ := List.mem_iff_getElem.1 this
  exact ⟨q, by rw [List.getElem?_eq_getElem hq, e]⟩
/-- What is known when the first i places are gone through. -/
structure Met (l : List Message) (p : List Nat) (i : Nat) (met : List Bool) : Prop where
  len : met.length = l.length
  iff : ∀ (x : Nat) (a : Message), l[x]? = some a → (met[x]? = some true ↔ ∃ (q r y : Nat) (b : Message), q < i ∧ r < i ∧ q ≠ r ∧ p[q]? = some x ∧ p[r]? = some y ∧ l[y]? = some b ∧ sameId a.ev b.ev = true)
  good : ∀ (q r x y : Nat) (a b : Message), q < i → r < i → q ≠ r → p[q]? = some x → p[r]? = some y → l[x]? = some a → l[y]? = some b → sameId a.ev b.ev = true → meets a b = true
theorem met_start {l : List Message} {p : List Nat} {i : Nat} (hi : i ≤ 1) : Met l p i (List.replicate l.length false) := by
  refine ⟨by simp, fun x a hx => ⟨fun h => ?_, fun ⟨q, r, _, _, hq, hr, hn, _⟩ => by omega⟩, fun q r _ _ _ _ hq hr hn => by omega⟩
  rw [List.getElem?_replicate] at h
  split at h <;> simp at h
section
variable {l : List Message} {p : List Nat} {i : Nat} {met : List Bool} {x y : Nat} {a b : Message}
theorem met_skip (hp : Places l p) (h : Met l p (i + 1) met) (hx : p[i]? = some x) (hy : p[i + 1]? = some y) (ha : l[x]? = some a) (hb : l[y]? = some b) (hid : sameId a.ev b.ev = false) : Met l p (i + 2) met := by
  have no : ∀ (r z : Nat) (c : Message), r < i + 1 → p[r]? = some z → l[z]? = some c → sameId c.ev b.ev = false := by
    intro r z c hr hz hc
    by_cases e : r = i
    · subst e; rw [hx] at hz; cases hz; rw [ha] at hc; cases hc; exact hid
    · cases hs : sameId c.ev b.ev with
      | false => rfl
      | true =>
        have := hp.near r i (i + 1) z x y c a b (by omega) (by omega) hz hx hy hc ha hb hs
        rw [sameId_trans (sameId_symm this) hs] at hid; cases hid
  refine ⟨h.len, fun z c hc => ?_, fun q r z z' c c' hq hr hn hz hz' hc hc' hs => ?_⟩
  · rw [h.iff z c hc]
    constructor
    · rintro ⟨q, r, z', c', hq, hr, hn, hz, hz', hc', hs⟩
      exact ⟨q, r, z', c', by omega, by omega, hn, hz, hz', hc', hs⟩
    · rintro ⟨q, r, z', c', hq, hr, hn, hz, hz', hc', hs⟩
      by_cases e1 : q = i + 1
      · subst e1
        rw [hy] at hz; cases hz
        rw [hb] at hc; cases hc
        have := no r z' c' (by omega) hz' hc'
        rw [sameId_symm hs] at this; cases this
      · by_cases e2 : r = i + 1
        · subst e2
          rw [hy] at hz'; cases hz'
          rw [hb] at hc'; cases hc'
          have := no q z c (by omega) hz hc
          rw [hs] at this; cases this
        · exact ⟨q, r, z', c', by omega, by omega, hn, hz, hz', hc', hs⟩
  · by_cases e1 : q = i + 1
    · subst e1
      rw [hy] at hz; cases hz
      rw [hb] at hc; cases hc
      have := no r z' c' (by omega) hz' hc'
      rw [sameId_symm hs] at this; cases this
    · by_cases e2 : r = i + 1
      · subst e2
        rw [hy] at hz'; cases hz'
        rw [hb] at hc'; cases hc'
        have := no q z c (by omega) hz hc
        rw [hs] at this; cases this
      · exact h.good q r z z' c c' (by omega) (by omega) hn hz hz' hc hc' hs
theorem met_bad (hp : Places l p) (h : Met l p (i + 1) met) (hx : p[i]? = some x) (hy : p[i + 1]? = some y) (ha : l[x]? = some a) (hb : l[y]? = some b) (hid : sameId a.ev b.ev = true) (hm : met[x]? = some true ∨ meets a b = false) : Bad l := by
  have hxy : x ≠ y := fun e => by subst e; have := hp.inj hx hy; omega
  rcases hm with hm | hm
  · obtain ⟨q, r, z, c, hq, hr, hn, hz, hz', hc, hs⟩ := (h.iff x a ha).1 hm
    have hqi : q = i := hp.inj hz hx
    subst hqi
    have hxz : x ≠ z := fun e => by subst e; exact hn (hp.inj hz hz')
    have hzy : z ≠ y := fun e => by subst e; have := hp.inj hz' hy; omega
    have hac := h.good q r x z a c hq hr hn hz hz' ha hc hs
    cases hab : meets a b with
    | false => exact ⟨x, y, a, b, hxy, ha, hb, hid, hab⟩
    | true => exact ⟨z, y, c, b, hzy, hc, hb, sameId_trans (sameId_symm hs) hid, meets_three hac hab⟩
  · exact ⟨x, y, a, b, hxy, ha, hb, hid, hm⟩
theorem met_two (hp : Places l p) (h : Met l p (i + 1) met) (hx : p[i]? = some x) (hy : p[i + 1]? = some y) (ha : l[x]? = some a) (hb : l[y]? = some b) (hid : sameId a.ev b.ev = true) (hm : met[x]? = some false) (hab : meets a b = true) :
    Met l p (i + 2) ((met.set x true).set y true) := by
  have hxl := (List.getElem?_eq_some_iff.1 ha).1
  have hyl := (List.getElem?_eq_some_iff.1 hb).1
  have hxy : x ≠ y := fun e => by subst e; have := hp.inj hx hy; omega
  have lone : ∀ (r z : Nat) (c : Message), r < i → p[r]? = some z → l[z]? = some c → sameId a.ev c.ev = true → False := by
    intro r z c hr hz hc hs
    have : met[x]? = some true := (h.iff x a ha).2 ⟨i, r, z, c, by omega, by omega, by omega, hx, hz, hc, hs⟩
    rw [hm] at this; cases this
  refine ⟨by simp [h.len], fun z c hc => ?_, fun q r z z' c c' hq hr hn hz hz' hc hc' hs => ?_⟩
  · by_cases e1 : z = y
    · subst e1
      rw [hb] at hc; cases hc
      rw [List.getElem?_set_self (by simp [h.len, hyl])]
      exact ⟨fun _ => ⟨i + 1, i, x, a, by omega, by omega, by omega, hy, hx, ha, sameId_symm hid⟩, fun _ => rfl⟩
    · rw [List.getElem?_set_ne (Ne.symm e1)]
      by_cases e2 : z = x
      · subst e2
        rw [ha] at hc; cases hc
        rw [List.getElem?_set_self (by rw [h.len]; exact hxl)]
        exact ⟨fun _ => ⟨i, i + 1, y, b, by omega, by omega, by omega, hx, hy, hb, hid⟩, fun _ => rfl⟩
      · rw [List.getElem?_set_ne (Ne.symm e2), h.iff z c hc]
        constructor
        · rintro ⟨q, r, z', c', hq, hr, hn, hz, hz', hc', hs⟩
          exact ⟨q, r, z', c', by omega, by omega, hn, hz, hz', hc', hs⟩
        · rintro ⟨q, r, z', c', hq, hr, hn, hz, hz', hc', hs⟩
          have hq1 : q ≠ i + 1 := fun e => by subst e; rw [hy] at hz; cases hz; exact e1 rfl
          have hq2 : q ≠ i := fun e => by subst e; rw [hx] at hz; cases hz; exact e2 rfl
          by_cases e3 : r = i + 1
          · subst e3
            rw [hy] at hz'; cases hz'
            rw [hb] at hc'; cases hc'
            exact (lone q z c (by omega) hz hc (sameId_trans hid (sameId_symm hs))).elim
          · exact ⟨q, r, z', c', by omega, by omega, hn, hz, hz', hc', hs⟩
  · by_cases e1 : q = i + 1
    · subst e1
      rw [hy] at hz; cases hz
      rw [hb] at hc; cases hc
      by_cases e2 : r = i
      · subst e2; rw [hx] at hz'; cases hz'; rw [ha] at hc'; cases hc'; exact meets_symm hab
      · exact (lone r z' c' (by omega) hz' hc' (sameId_trans hid hs)).elim
    · by_cases e2 : r = i + 1
      · subst e2
        rw [hy] at hz'; cases hz'
        rw [hb] at hc'; cases hc'
        by_cases e3 : q = i
        · subst e3; rw [hx] at hz; cases hz; rw [ha] at hc; cases hc; exact hab
        · exact (lone q z c (by omega) hz hc (sameId_trans hid (sameId_symm hs))).elim
      · exact h.good q r z z' c c' (by omega) (by omega) hn hz hz' hc hc' hs
theorem met_done (hp : Places l p) (h : Met l p i met) (hi : l.length ≤ i) : ¬ Bad l ∧ ∀ (x : Nat) (a : Message), l[x]? = some a → (met[x]? = some false ↔ Alone l x) := by
  refine ⟨?_, fun x a ha => ?_⟩
  · rintro ⟨x, y, a, b, hxy, ha, hb, hs, hm⟩
    obtain ⟨q, hq⟩ := hp.at_ (List.getElem?_eq_some_iff.1 ha).1
    obtain ⟨r, hr⟩ := hp.at_ (List.getElem?_eq_some_iff.1 hb).1
    have hql := (List.getElem?_eq_some_iff.1 hq).1
    have hrl := (List.getElem?_eq_some_iff.1 hr).1
    rw [hp.len] at hql hrl
    rw [h.good q r x y a b (by omega) (by omega) (fun e => by subst e; rw [hq] at hr; cases hr; exact hxy rfl) hq hr ha hb hs] at hm
    cases hm
  · have hxl := (List.getElem?_eq_some_iff.1 ha).1
    obtain ⟨q, hq⟩ := hp.at_ hxl
    have hql := (List.getElem?_eq_some_iff.1 hq).1
    rw [hp.len] at hql
    obtain ⟨bv, hmx⟩ : ∃ bv, met[x]? = some bv := ⟨_, List.getElem?_eq_getElem (by rw [h.len]; exact hxl)⟩
    constructor
    · intro hf k a' b hk ha' hb
      rw [ha] at ha'; cases ha'
      obtain ⟨r, hr⟩ := hp.at_ (List.getElem?_eq_some_iff.1 hb).1
      have hrl := (List.getElem?_eq_some_iff.1 hr).1
      rw [hp.len] at hrl
      cases hs : sameId a.ev b.ev with
      | false => rfl
      | true =>
        have := (h.iff x a ha).2 ⟨q, r, k, b, by omega, by omega, fun e => by subst e; rw [hq] at hr; cases hr; exact hk rfl, hq, hr, hb, hs⟩
        rw [hf] at this; cases this
    · intro hal
      cases bv with
      | false => exact hmx
      | true =>
        obtain ⟨q', r, y, b, hq', hr, hn, hx', hy, hb, hs⟩ := (h.iff x a ha).1 hmx
        have hyx : y ≠ x := fun e => by subst e; exact hn (hp.inj hx' hy)
        have := hal y a b hyx ha hb
        rw [hs] at this; cases this
end
end Go.Proofs.Ytcbdacmdmaoegaa

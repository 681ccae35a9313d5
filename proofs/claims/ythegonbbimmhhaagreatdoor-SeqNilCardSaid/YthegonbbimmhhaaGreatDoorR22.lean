import Derived.Test.YthegonbbimmhhaaGreatDoorR21
import Derived.Test.YthegonbbimmhhaaGreatDoorR19
import Derived.Test.YthegonbbimmhhaaGreatDoorR11
import Derived.Test.YthegonbbimmhhaaGreatDoorR06
import Derived.Test.YthegonbbimmhhaaGreatDoorR04
/- Plain: what is sent in a batch; and a configuration that is shared. -/
namespace Go.Proofs.YthegonbbimmhhaaGreatDoor
open Go Go.RowKit Mem

section
variable {G : Nat → Prop} {w0 w : World} {L : List Asn} {vs hs : List Value} {c : Cfg}
end
/-- What is known of each message's event. -/
structure SentOk (n : Nat) (fin lp at_ : Int) (out : List Event) : Prop where
  each : ∀ (i : Nat) (x : Event), out[i]? = some x → x.key.src = lp ∧ x.key.sent = at_ ∧ x.key.no = i ∧ at_ < x.key.at_ ∧ x.key.at_ ≤ fin ∧ 0 ≤ x.dst ∧ x.dst < n
theorem SentOk.nil (n : Nat) (fin lp at_ : Int) : SentOk n fin lp at_ [] := ⟨fun i x h => by simp at h⟩
theorem SentOk.send {n : Nat} {fin lp at_ : Int} {out : List Event} (h : SentOk n fin lp at_ out) (y : Emit) : SentOk n fin lp at_ (sendE n fin lp at_ out y) := by
  unfold sendE
  split
  · rename_i hm
    unfold msgE at hm
    rw [decide_eq_true_eq] at hm
    refine ⟨fun i x hx => ?_⟩
    by_cases hi : i < out.length
    · rw [List.getElem?_append_left hi] at hx; exact h.each i x hx
    · have hi2 : i = out.length := by have := (List.getElem?_eq_some_iff.1 hx).1; simp at this; omega
      subst hi2
      rw [List.getElem?_append_right (Nat.le_refl _)] at hx
      simp at hx
      subst hx
      exact ⟨rfl, rfl, rfl, by simp only; omega, hm.2.2.2.2, hm.1, hm.2.1⟩
  · exact h
theorem SentOk.sends {n : Nat} {fin lp at_ : Int} : ∀ (em : List Emit) {out : List Event}, SentOk n fin lp at_ out → SentOk n fin lp at_ (em.foldl (sendE n fin lp at_) out)
  | [], _, h => h
  | y :: em, _, h => SentOk.sends em (h.send y)
theorem SentOk.ones {p : List Instr} {n : Nat} {fin fuel fan lp at_ : Int} : ∀ (l : List Event) {st : State × List Event}, SentOk n fin lp at_ st.2 → SentOk n fin lp at_ (l.foldl (oneE p n fin fuel fan lp at_) st).2
  | [], _, h => h
  | x :: l, st, h => SentOk.ones l (st := oneE p n fin fuel fan lp at_ st x) (SentOk.sends _ h)
theorem batch_sent (c : Cfg) (lp : Int) (s : State) (l : List Event) : SentOk c.lps.length c.fin lp (atE l) (batchC c lp s l).2 := SentOk.ones _ (SentOk.nil _ _ _ _)
theorem batch_len (c : Cfg) (lp : Int) (s : State) (l : List Event) (h : 0 ≤ c.fan) : ((batchC c lp s l).2.length : Int) ≤ c.fan * l.length := by
  have := ones_len (p := progOf c lp) (n := c.lps.length) (fin := c.fin) (fuel := c.fuel) (lp := lp) (at_ := atE l) h (sortE l) (s, [])
  rw [sortE_len] at this
  have e : (s, ([] : List Event)).2.length = 0 := rfl
  rw [e] at this
  unfold batchC batchE
  omega
end Go.Proofs.YthegonbbimmhhaaGreatDoor
/- Plain: a simulation, batch by batch. No program in sight. -/
namespace Go.Proofs.YthegonbbimmhhaaGreatDoor
open Go Go.RowKit Mem

/-- What waits at each process, in order; the states; how much waits, and waited at most. -/
structure SimE where
  ws : List (List Row)
  ss : List State
  many : Int
  peak : Int
def rowOf (x : Event) : Row := ⟨x.key, x⟩
def putOne (p : List (List Row) × Int) (x : Event) : List (List Row) × Int :=
  match p.1[x.dst.toNat]? with
  | some s => (p.1.set x.dst.toNat (pushed s (rowOf x)), if x.key ∈ s.map (·.key) then p.2 else p.2 + 1)
  | none => p
def putE (s : SimE) (l : List Event) : SimE :=
  ⟨(l.foldl putOne (s.ws, s.many)).1, s.ss, (l.foldl putOne (s.ws, s.many)).2, max s.peak (l.foldl putOne (s.ws, s.many)).2⟩
def emptyE (c : Cfg) : SimE := ⟨List.replicate c.lps.length [], c.lps.map (·.first), 0, 0⟩
def newE (c : Cfg) : SimE := putE (emptyE c) (sortE (startsFrom 0 c.starts))
def better (i : Nat) (s : List Row) (b : Option (Int × Nat)) : Option (Int × Nat) :=
  match s, b with
  | [], b => b
  | r :: _, none => some (r.key.at_, i)
  | r :: _, some (a, j) => if r.key.at_ < a then some (r.key.at_, i) else some (a, j)
def nextFrom : Nat → List (List Row) → Option (Int × Nat) → Option (Int × Nat)
  | _, [], b => b
  | i, s :: l, b => nextFrom (i + 1) l (better i s b)
def nextE (ws : List (List Row)) : Option (Int × Nat) := nextFrom 0 ws none
structure BatE where
  at_ : Int
  lp : Int
  ins : List Event
  thn : State
  sent : List Event
def hAt (s : SimE) (lp : Nat) : List Row := (s.ws[lp]?).getD []
def toldE (s : SimE) (a : Int) (lp : Nat) : List Event := ((hAt s lp).takeWhile (same_at a)).map (·.v)
def stOf (s : SimE) (lp : Nat) : State := (s.ss[lp]?).getD ⟨0, 0, 0, 0⟩
def simStep (c : Cfg) (s : SimE) : Option (BatE × SimE) :=
  match nextE s.ws with
  | none => none
  | some (a, lp) =>
    some (⟨a, lp, toldE s a lp, (batchC c lp (stOf s lp) (toldE s a lp)).1, (batchC c lp (stOf s lp) (toldE s a lp)).2⟩,
      putE ⟨s.ws.set lp ((hAt s lp).dropWhile (same_at a)), s.ss.set lp (batchC c lp (stOf s lp) (toldE s a lp)).1, s.many - (toldE s a lp).length, s.peak⟩ (batchC c lp (stOf s lp) (toldE s a lp)).2)
/-- What is known of a heap's rows. -/
def HeapOk (c : Cfg) (i : Nat) (h : List Row) : Prop := HSorted h ∧ ∀ r ∈ h, r.v.key = r.key ∧ r.v.dst = i ∧ 0 ≤ r.key.at_ ∧ r.key.at_ ≤ c.fin
structure SimOk (c : Cfg) (s : SimE) : Prop where
  len : s.ws.length = c.lps.length
  lens : s.ss.length = c.lps.length
  each : ∀ (i : Nat) (h : List Row), s.ws[i]? = some h → HeapOk c i h
theorem better_le (i : Nat) (s : List Row) (b : Option (Int × Nat)) : ∀ a j, better i s b = some (a, j) → (b = some (a, j)) ∨ (j = i ∧ ∃ r t, s = r :: t ∧ r.key.at_ = a) := by
  intro a j h
  unfold better at h
  split at h
  · exact .inl h
  · simp only [Option.some.injEq, Prod.mk.injEq] at h
    exact .inr ⟨h.2.symm, _, _, rfl, h.1⟩
  · split at h
    · simp only [Option.some.injEq, Prod.mk.injEq] at h
      exact .inr ⟨h.2.symm, _, _, rfl, h.1⟩
    · exact .inl h
theorem nextFrom_is : ∀ (l : List (List Row)) (i : Nat) (b : Option (Int × Nat)) (a : Int) (j : Nat), nextFrom i l b = some (a, j) → (b = some (a, j)) ∨ (i ≤ j ∧ ∃ r t, l[j - i]? = some (r :: t) ∧ r.key.at_ = a)
  | [], i, b, a, j, h => .inl h
  | s :: l, i, b, a, j, h => by
    rcases nextFrom_is l (i + 1) (better i s b) a j h with h | ⟨h1, r, t, h2, h3⟩
    · rcases better_le i s b a j h with h5 | ⟨h4, r, t, h6, h5⟩
      · exact .inl h5
      · exact .inr ⟨by omega, r, t, by subst h4; subst h6; simp, h5⟩
    · refine .inr ⟨by omega, r, t, ?_, h3⟩
      rw [show j - i = (j - (i + 1)) + 1 by omega, List.getElem?_cons_succ]
      exact h2
theorem next_is {ws : List (List Row)} {a : Int} {lp : Nat} (h : nextE ws = some (a, lp)) : ∃ r t, ws[lp]? = some (r :: t) ∧ r.key.at_ = a := by
  rcases nextFrom_is ws 0 none a lp h with h | ⟨_, r, t, h2, h3⟩
  · cases h
  · exact ⟨r, t, h2, h3⟩
theorem putOne_len (p : List (List Row) × Int) (x : Event) : (putOne p x).1.length = p.1.length := by
  unfold putOne
  split
  · simp
  · rfl
theorem puts_len : ∀ (l : List Event) (p : List (List Row) × Int), (l.foldl putOne p).1.length = p.1.length
  | [], _ => rfl
  | x :: l, p => (puts_len l (putOne p x)).trans (putOne_len p x)
theorem pushed_mem {s : List Row} {r x : Row} (h : x ∈ pushed s r) : x = r ∨ x ∈ s := by
  unfold pushed at h
  split at h
  · exact .inr h
  · exact List.mem_cons.1 ((ins_perm r s).mem_iff.1 h)
theorem pushed_sorted {s : List Row} (h : HSorted s) (r : Row) : HSorted (pushed s r) := by
  unfold pushed
  split
  · exact h
  · exact ins_sorted _ _ h ‹_›
theorem pushed_length (s : List Row) (r : Row) : (pushed s r).length ≤ s.length + 1 := by
  unfold pushed
  split
  · omega
  · rw [ins_length]; omega
/-- An event that may wait. -/
def EvOk (c : Cfg) (x : Event) : Prop := 0 ≤ x.dst ∧ x.dst < c.lps.length ∧ 0 ≤ x.key.at_ ∧ x.key.at_ ≤ c.fin
theorem putOne_ok {c : Cfg} {p : List (List Row) × Int} (h : ∀ (i : Nat) (h : List Row), p.1[i]? = some h → HeapOk c i h) {x : Event} (hx : EvOk c x) : ∀ (i : Nat) (h : List Row), (putOne p x).1[i]? = some h → HeapOk c i h := by
  intro i h0 hi
  unfold putOne at hi
  split at hi
  · rename_i s hs
    simp only at hi
    rw [List.getElem?_set] at hi
    split at hi
    · rename_i e
      subst e
      split at hi
      · simp only [Option.some.injEq] at hi
        subst hi
        have hk := h _ s hs
        refine ⟨pushed_sorted hk.1 _, fun r hr => ?_⟩
        rcases pushed_mem hr with rfl | hr
        · have := hx
          unfold EvOk at this
          exact ⟨rfl, by show x.dst = _; omega, this.2.2.1, this.2.2.2⟩
        · exact hk.2 r hr
      · cases hi
    · exact h i h0 hi
  · exact h i h0 hi
theorem puts_ok {c : Cfg} : ∀ (l : List Event) {p : List (List Row) × Int}, (∀ (i : Nat) (h : List Row), p.1[i]? = some h → HeapOk c i h) → (∀ x ∈ l, EvOk c x) → ∀ (i : Nat) (h : List Row), (l.foldl putOne p).1[i]? = some h → HeapOk c i h
  | [], _, h, _ => h
  | x :: l, _, h, hl => puts_ok l (putOne_ok h (hl x (by simp))) (fun y hy => hl y (List.mem_cons_of_mem _ hy))
theorem put_ok {c : Cfg} {s : SimE} (h : SimOk c s) {l : List Event} (hl : ∀ x ∈ l, EvOk c x) : SimOk c (putE s l) :=
  ⟨(puts_len l _).trans h.len, h.lens, puts_ok l h.each hl⟩
theorem empty_ok (c : Cfg) : SimOk c (emptyE c) := ⟨by simp [emptyE], by simp [emptyE], fun i h hi => by
  have := List.mem_of_getElem? hi
  obtain ⟨_, rfl⟩ := List.mem_replicate.1 this
  exact ⟨List.Pairwise.nil, fun r hr => by simp at hr⟩⟩
theorem starts_ev {c : Cfg} (hc : CfgFine c) : ∀ (l : List Start) (n : Nat), (∀ s ∈ l, s ∈ c.starts) → ∀ x ∈ startsFrom n l, EvOk c x
  | [], _, _, x, hx => by simp [startsFrom] at hx
  | s :: l, n, hs, x, hx => by
    unfold startsFrom at hx
    rcases List.mem_cons.1 hx with rfl | hx
    · have h1 := hc.dsts s (hs s (by simp))
      have h2 := hc.times s (hs s (by simp))
      exact ⟨h1.1, h1.2, h2.1, h2.2⟩
    · exact starts_ev hc l (n + 1) (fun y hy => hs y (List.mem_cons_of_mem _ hy)) x hx
theorem new_ok {c : Cfg} (hc : CfgFine c) : SimOk c (newE c) :=
  put_ok (empty_ok c) fun x hx => starts_ev hc c.starts 0 (fun _ h => h) x ((sortE_perm _).mem_iff.1 hx)
theorem twh_mem {α : Type} (p : α → Bool) : ∀ (l : List α), ∀ x ∈ l.takeWhile p, p x = true ∧ x ∈ l
  | [], x, h => by simp at h
  | a :: l, x, h => by
    by_cases e : p a = true
    · rw [List.takeWhile_cons, if_pos e] at h
      rcases List.mem_cons.1 h with rfl | h
      · exact ⟨e, by simp⟩
      · exact ⟨(twh_mem p l x h).1, List.mem_cons_of_mem _ (twh_mem p l x h).2⟩
    · rw [List.takeWhile_cons, if_neg e] at h; simp at h
/-- What a batch is told may be one. -/
theorem ins_fine {c : Cfg} {s : SimE} (hs : SimOk c s) {a : Int} {lp : Nat} (hn : nextE s.ws = some (a, lp)) : wrongE c.lps.length lp (toldE s a lp) = 0 ∧ atE (toldE s a lp) = a ∧ 0 ≤ a ∧ a ≤ c.fin ∧ lp < c.lps.length := by
  obtain ⟨r, t, hw, ha⟩ := next_is hn
  have hlp : lp < c.lps.length := by rw [← hs.len]; exact (List.getElem?_eq_some_iff.1 hw).1
  have hk := hs.each lp _ hw
  have hh : hAt s lp = r :: t := by unfold hAt; rw [hw]; rfl
  have hr := hk.2 r (by simp)
  have hi : toldE s a lp = r.v :: ((t.takeWhile (same_at a)).map (·.v)) := by
    unfold toldE; rw [hh, List.takeWhile_cons, if_pos (by simp [same_at, ha])]; rfl
  have hat : atE (toldE s a lp) = a := by rw [hi]; show r.v.key.at_ = a; rw [hr.1, ha]
  have hmem : ∀ x ∈ toldE s a lp, x.key.at_ = a ∧ x.dst = lp := fun x hx => by
    obtain ⟨y, hy, rfl⟩ := List.mem_map.1 hx
    have h1 := twh_mem (same_at a) _ y hy
    rw [hh] at h1
    have h2 := hk.2 y h1.2
    have h3 : y.key.at_ = a := by simpa [same_at] using h1.1
    exact ⟨by rw [h2.1, h3], h2.2.1⟩
  have hnd : twiceB (toldE s a lp) = false := by
    unfold twiceB
    rw [Bool.not_eq_false', decide_eq_true_eq]
    have h1 : (toldE s a lp).map (·.key) = ((hAt s lp).takeWhile (same_at a)).map (·.key) := by
      unfold toldE
      rw [List.map_map]
      refine List.map_congr_left fun y hy => ?_
      have h2 := (twh_mem (same_at a) _ y hy).2
      rw [hh] at h2
      exact (hk.2 y h2).1
    rw [h1, hh]
    exact (hk.1.nodup).sublist ((List.takeWhile_sublist _).map _)
  refine ⟨?_, hat, by rw [← ha]; exact hr.2.2.1, by rw [← ha]; exact hr.2.2.2, hlp⟩
  unfold wrongE
  rw [if_neg (by omega), if_neg (by rw [hi]; simp), if_neg (fun h => h fun x hx => (hmem x hx).2), if_neg (fun h => h fun x hx => by rw [hat]; exact (hmem x hx).1), if_neg (by rw [hnd]; simp)]
theorem step_ok {c : Cfg} {s s' : SimE} {b : BatE} (hs : SimOk c s) (h : simStep c s = some (b, s')) : SimOk c s' := by
  unfold simStep at h
  cases hn : nextE s.ws with
  | none => rw [hn] at h; cases h
  | some p =>
    obtain ⟨a, lp⟩ := p
    rw [hn] at h
    simp only [Option.some.injEq, Prod.mk.injEq] at h
    obtain ⟨_, rfl⟩ := h
    obtain ⟨_, hat, ha0, ha1, hlp⟩ := ins_fine hs hn
    obtain ⟨r, t, hw, _⟩ := next_is hn
    refine put_ok ⟨by simp [hs.len], by simp [hs.lens], fun i h hi => ?_⟩ fun x hx => ?_
    · simp only at hi
      rw [List.getElem?_set] at hi
      split at hi
      · rename_i e
        subst e
        split at hi
        · simp only [Option.some.injEq] at hi
          subst hi
          have hk := hs.each lp _ hw
          have hh : hAt s lp = r :: t := by unfold hAt; rw [hw]; rfl
          rw [hh]
          exact ⟨hk.1.sublist (List.dropWhile_sublist _), fun y hy => hk.2 y ((List.dropWhile_sublist _).subset hy)⟩
        · cases hi
      · exact hs.each i h hi
    · obtain ⟨i, hi, he⟩ := List.mem_iff_getElem.1 hx
      have := (batch_sent c lp (stOf s lp) (toldE s a lp)).each i x (by rw [List.getElem?_eq_getElem hi, he])
      rw [hat] at this
      exact ⟨this.2.2.2.2.2.1, this.2.2.2.2.2.2, by omega, this.2.2.2.2.1⟩
end Go.Proofs.YthegonbbimmhhaaGreatDoor
/- Many things that lie apart, as one: of which one may be lent. Over any program. -/
namespace Go.Proofs.YthegonbbimmhhaaGreatDoor.Mem
open Go Go.RowKit Reg

def stars : List Asn → Asn
  | [] => pur True
  | A :: As => sep false A (stars As)
theorem stars_sh : ∀ As : List Asn, (stars As).sh = false
  | [] => rfl
  | _ :: _ => rfl
theorem stars_part : ∀ (As : List Asn) (k : Nat) (A : Asn) (w : World) (F : Nat → Prop), (stars As).at_ w F → As[k]? = some A → ∃ Fk, A.at_ w Fk ∧ (∀ b, Fk b → F b) ∧
    ∀ w' A' (Fk' : Nat → Prop), Keep Fk w w' → A'.at_ w' Fk' → (∀ b, Fk' b → Fk b ∨ w.heap.size ≤ b) → ∃ F', (stars (As.set k A')).at_ w' F' ∧ ∀ b, F' b → F b ∨ w.heap.size ≤ b
  | [], k, A, w, F, _, hk => by simp at hk
  | A0 :: As, 0, A, w, F, h, hk => by
    simp at hk; subst hk
    obtain ⟨F1, F2, h1, h2, hd, hF⟩ := h
    refine ⟨F1, h1, fun b hb => (hF b).2 (.inl hb), fun w' A' Fk' hK hA' hn => ?_⟩
    have h2' : (stars As).at_ w' F2 := (stars As).loc h2 fun b hb => hK.block b ((stars As).lt h2 b hb) (fun h => hd b h hb)
    refine ⟨fun b => Fk' b ∨ F2 b, ⟨Fk', F2, hA', h2', fun b hb hb2 => ?_, fun _ => Iff.rfl⟩, fun b hb => ?_⟩
    · rcases hn b hb with h | h
      · exact hd b h hb2
      · have := (stars As).lt h2 b hb2; omega
    · rcases hb with hb | hb
      · rcases hn b hb with h | h
        · exact .inl ((hF b).2 (.inl h))
        · exact .inr h
      · exact .inl ((hF b).2 (.inr hb))
  | A0 :: As, k + 1, A, w, F, h, hk => by
    obtain ⟨F1, F2, h1, h2, hd, hF⟩ := h
    obtain ⟨Fk, g1, g2, g3⟩ := stars_part As k A w F2 h2 (by simpa using hk)
    refine ⟨Fk, g1, fun b hb => (hF b).2 (.inr (g2 b hb)), fun w' A' Fk' hK hA' hn => ?_⟩
    obtain ⟨F2', k1, k2⟩ := g3 w' A' Fk' hK hA' hn
    have h1' : A0.at_ w' F1 := A0.loc h1 fun b hb => hK.block b (A0.lt h1 b hb) (fun h => hd b hb (g2 b h))
    refine ⟨fun b => F1 b ∨ F2' b, ⟨F1, F2', h1', k1, fun b hb hb2 => ?_, fun _ => Iff.rfl⟩, fun b hb => ?_⟩
    · rcases k2 b hb2 with h | h
      · exact hd b hb h
      · have := A0.lt h1 b hb; omega
    · rcases hb with hb | hb
      · exact .inl ((hF b).2 (.inl hb))
      · rcases k2 b hb with h | h
        · exact .inl ((hF b).2 (.inr h))
        · exact .inr h
theorem stars_snoc : ∀ (As : List Asn) (A : Asn) (w : World) (F F' : Nat → Prop), A.at_ w F → (stars As).at_ w F' → (∀ b, F b → ¬ F' b) → (stars (As ++ [A])).at_ w (fun b => F b ∨ F' b)
  | [], A, w, F, F', h, h', hd => ⟨F, F', h, h', hd, fun _ => Iff.rfl⟩
  | A0 :: As, A, w, F, F', h, ⟨F1, F2, h1, h2, hd2, hF⟩, hd => by
    have ih := stars_snoc As A w F F2 h h2 (fun b hb hb2 => hd b hb ((hF b).2 (.inr hb2)))
    refine ⟨F1, fun b => F b ∨ F2 b, h1, ih, fun b hb hb2 => ?_, fun b => ?_⟩
    · rcases hb2 with h | h
      · exact hd b h ((hF b).2 (.inl hb))
      · exact hd2 b hb h
    · show (F b ∨ F' b) ↔ (F1 b ∨ (F b ∨ F2 b)); rw [hF b]; exact ⟨fun h => h.elim (fun h => .inr (.inl h)) (fun h => h.elim .inl (fun h => .inr (.inr h))), fun h => h.elim (fun h => .inr (.inl h)) (fun h => h.elim .inl (fun h => .inr (.inr h)))⟩
section
variable {G : Nat → Prop} {w0 w : World} {L As : List Asn} {A : Asn}
theorem St.starLend (S : St G w0 w L) (i : Nat) (hi : L[i]? = some (stars As)) (k : Nat) (hk : As[k]? = some A) :
    ∃ F, A.at_ w F ∧ ∀ w' A', A'.sh = false → St F w w' [A'] → St G w0 w' (L.set i (stars (As.set k A'))) := by
  obtain ⟨F0, h0, hb⟩ := S.stepAt hi (stars_sh As)
  obtain ⟨Fk, g1, g2, g3⟩ := stars_part As k A w F0 h0 hk
  refine ⟨Fk, g1, fun w' A' ho T => ?_⟩
  obtain ⟨Gs, hg, _⟩ := T.ex
  obtain ⟨t1, t2⟩ := hg 0 A' rfl
  obtain ⟨F', k1, k2⟩ := g3 w' A' (Gs 0) T.keep t1 (t2 ho)
  exact hb w' _ ⟨F', T.keep.mono (fun x _ h h' => h (g2 x h')), k1, k2⟩
theorem St.starNil (S : St G w0 w L) : St G w0 w (stars [] :: L) := S.close_pur trivial
theorem St.starSnoc (S : St G w0 w (A :: stars As :: L)) (ho : A.sh = false) : St G w0 w (stars (As ++ [A]) :: L) := by
  have S1 := S.close_sep ho (stars_sh As)
  have S2 := S1.weak (i := 0) (A' := stars (As ++ [A])) rfl (fun _ => rfl) fun F h => by
    obtain ⟨F1, F2, h1, h2, hd, hF⟩ := h
    refine ⟨fun b => F1 b ∨ F2 b, fun b hb => (hF b).2 hb, stars_snoc As A w F1 F2 h1 h2 hd⟩
  simpa using S2
end
section
variable {G : Nat → Prop} {w0 w w' : World} {L : List Asn} {A A' B B' : Asn} {i j : Nat}
theorem St.stepFs (S : St G w0 w L) (Fs : Nat → Nat → Prop) (hf : ∀ i A, L[i]? = some A → A.at_ w (Fs i) ∧ (A.sh = false → ∀ b, Fs i b → G b ∨ w0.heap.size ≤ b))
    (hd : ∀ i j A B, i < j → L[i]? = some A → L[j]? = some B → (A.sh = true ∧ B.sh = true) ∨ ∀ b, Fs i b → ¬ Fs j b) (hi : L[i]? = some A) (ho : A.sh = false) (w' : World) (A' : Asn) :
    (∃ F', Keep (Fs i) w w' ∧ A'.at_ w' F' ∧ ∀ b, F' b → Fs i b ∨ w.heap.size ≤ b) → St G w0 w' (L.set i A') := by
  intro ⟨F', hK, hA', hF'⟩
  have hil := (List.getElem?_eq_some_iff.1 hi).1
  have hnew : ∀ b, F' b → Fs i b ∨ w.heap.size ≤ b := hF'
  have apart : ∀ j B, j ≠ i → L[j]? = some B → ∀ b, Fs j b → ¬ Fs i b := by
    intro j B hj hB b hb hb'
    rcases Nat.lt_or_gt_of_ne hj with h | h
    · rcases hd j i B A h hB hi with ⟨_, e⟩ | e
      · rw [ho] at e; cases e
      · exact e b hb hb'
    · rcases hd i j A B h hi hB with ⟨e, _⟩ | e
      · rw [ho] at e; cases e
      · exact e b hb' hb
  refine ⟨S.keep.trans hK (fun x hx hn => ⟨hn, fun hb => ?_⟩), fun j => if j = i then F' else Fs j, fun j B hj => ?_, fun j k B C hjk hj hk => ?_⟩
  · rcases (hf i A hi).2 ho x hb with h | h
    · exact hn h
    · omega
  · by_cases e : j = i
    · subst e
      rw [List.getElem?_set_self hil] at hj
      cases hj
      simp only [if_true]
      refine ⟨hA', fun _ b hb => ?_⟩
      rcases hnew b hb with h | h
      · exact (hf j A hi).2 ho b h
      · exact .inr (Nat.le_trans S.size h)
    · rw [List.getElem?_set_ne (Ne.symm e)] at hj
      simp only [if_neg e]
      exact ⟨B.loc (hf j B hj).1 (fun b hb => hK.block b (B.lt (hf j B hj).1 b hb) (apart j B e hj b hb)), (hf j B hj).2⟩
  · by_cases e : j = i
    · subst e
      have e' : k ≠ j := by omega
      rw [List.getElem?_set_ne (Ne.symm e')] at hk
      simp only [if_true, if_neg e']
      refine .inr fun b hb hb' => ?_
      rcases hnew b hb with h | h
      · exact apart k C e' hk b hb' h
      · have := C.lt (hf k C hk).1 b hb'; omega
    · rw [List.getElem?_set_ne (Ne.symm e)] at hj
      by_cases e' : k = i
      · subst e'
        simp only [if_true, if_neg e]
        refine .inr fun b hb hb' => ?_
        rcases hnew b hb' with h | h
        · exact apart j B e hj b hb h
        · have := B.lt (hf j B hj).1 b hb; omega
      · rw [List.getElem?_set_ne (Ne.symm e')] at hk
        simp only [if_neg e, if_neg e']
        exact hd j k B C hjk hj hk
/-- One thing is lent to a call, to be turned, and another one, to be read. -/
theorem St.lendR (S : St G w0 w L) (i j : Nat) (hi : L[i]? = some A) (hj : L[j]? = some B) (hij : i ≠ j) (ho : A.sh = false) (hs : B'.sh = true) (hB : ∀ F, B.at_ w F → B'.at_ w F) :
    ∃ F, St F w w [A, B'] ∧ ∀ w' A', A'.sh = false → St F w w' [A'] → St G w0 w' (L.set i A') := by
  obtain ⟨Fs, hf, hd⟩ := S.ex
  refine ⟨Fs i, ⟨Keep.refl _ _, fun k => if k = 0 then Fs i else Fs j, fun k C hk => ?_, fun k k' C D hkk hk hk' => ?_⟩, fun w' A' ho' T => ?_⟩
  · match k, hk with
    | 0, hk => cases hk; exact ⟨(hf i A hi).1, fun _ b hb => .inl hb⟩
    | 1, hk => cases hk; exact ⟨hB _ (hf j B hj).1, fun e => by rw [hs] at e; cases e⟩
  · match k, k', hk, hk', hkk with
    | 0, 1, hk, hk', _ =>
      cases hk; cases hk'
      refine .inr ?_
      simp only [if_true]
      rw [if_neg (by decide)]
      rcases Nat.lt_or_gt_of_ne hij with h | h
      · rcases hd i j A B h hi hj with ⟨e, _⟩ | e
        · rw [ho] at e; cases e
        · exact e
      · rcases hd j i B A h hj hi with ⟨_, e⟩ | e
        · rw [ho] at e; cases e
        · exact fun b hb hb' => e b hb' hb
    | k + 2, _, hk, _, _ => simp at hk
    | 0, k + 2, _, hk, _ => simp at hk
    | 1, k + 2, _, hk, _ => simp at hk
    | 1, 0, _, _, h => omega
    | 0, 0, _, _, h => omega
    | 1, 1, _, _, h => omega
  · obtain ⟨Gs, hg, _⟩ := T.ex
    obtain ⟨g1, g2⟩ := hg 0 A' rfl
    exact S.stepFs Fs hf hd hi ho w' A' ⟨Gs 0, T.keep, g1, g2 ho'⟩
/-- One of many is two: the second one is taken out. -/
theorem stars_take : ∀ (As : List Asn) (k : Nat) (A B : Asn) (w : World) (F : Nat → Prop), (stars As).at_ w F → As[k]? = some (sep false A B) → ∃ F1 F2, (stars (As.set k A)).at_ w F1 ∧ B.at_ w F2 ∧ (∀ b, F1 b → ¬ F2 b) ∧ ∀ b, F b ↔ F1 b ∨ F2 b
  | [], k, A, B, w, F, _, hk => by simp at hk
  | A0 :: As, 0, A, B, w, F, h, hk => by
    simp at hk; subst hk
    obtain ⟨F1, F2, ⟨F3, F4, h3, h4, hd3, hF3⟩, h2, hd, hF⟩ := h
    refine ⟨fun b => F3 b ∨ F2 b, F4, ⟨F3, F2, h3, h2, fun b hb hb2 => hd b ((hF3 b).2 (.inl hb)) hb2, fun _ => Iff.rfl⟩, h4, fun b hb hb4 => ?_, fun b => ?_⟩
    · rcases hb with hb | hb
      · exact hd3 b hb hb4
      · exact hd b ((hF3 b).2 (.inr hb4)) hb
    · rw [hF b, hF3 b]; exact ⟨fun h => h.elim (fun h => h.elim (fun h => .inl (.inl h)) .inr) (fun h => .inl (.inr h)), fun h => h.elim (fun h => h.elim (fun h => .inl (.inl h)) .inr) (fun h => .inl (.inr h))⟩
  | A0 :: As, k + 1, A, B, w, F, h, hk => by
    obtain ⟨F1, F2, h1, h2, hd, hF⟩ := h
    obtain ⟨F5, F6, h5, h6, hd5, hF5⟩ := stars_take As k A B w F2 h2 (by simpa using hk)
    refine ⟨fun b => F1 b ∨ F5 b, F6, ⟨F1, F5, h1, h5, fun b hb hb5 => hd b hb ((hF5 b).2 (.inl hb5)), fun _ => Iff.rfl⟩, h6, fun b hb hb6 => ?_, fun b => ?_⟩
    · rcases hb with hb | hb
      · exact hd b hb ((hF5 b).2 (.inr hb6))
      · exact hd5 b hb hb6
    · rw [hF b, hF5 b]; exact ⟨fun h => h.elim (fun h => .inl (.inl h)) (fun h => h.elim (fun h => .inl (.inr h)) .inr), fun h => h.elim (fun h => h.elim .inl (fun h => .inr (.inl h))) (fun h => .inr (.inr h))⟩
theorem St.starTake {As : List Asn} {k : Nat} (S : St G w0 w (stars As :: L)) (hk : As[k]? = some (sep false A B)) (hB : B.sh = false) : St G w0 w (stars (As.set k A) :: B :: L) := by
  have S2 := S.weak (i := 0) (A' := sep false (stars (As.set k A)) B) rfl (fun _ => stars_sh As) fun F h => by
    obtain ⟨F1, F2, h1, h2, h3, h4⟩ := stars_take As k A B w F h hk
    exact ⟨F, fun _ hb => hb, F1, F2, h1, h2, h3, h4⟩
  simp only [List.set_cons_zero] at S2
  exact S2.open_sep (stars_sh _) hB
/-- A thing that is only read. -/
def rd (A : Asn) : Asn := ⟨true, A.at_, A.loc, A.lt⟩
theorem star_get {As : List Asn} {k : Nat} (h : ∃ F, (rd (stars As)).at_ w F) (hk : As[k]? = some A) : ∃ F, A.at_ w F := by
  obtain ⟨F, h⟩ := h
  obtain ⟨Fk, g1, _⟩ := stars_part As k A w F h hk
  exact ⟨Fk, g1⟩
end
end Go.Proofs.YthegonbbimmhhaaGreatDoor.Mem

import Derived.Test.YtfiiaechippboaaDoorP20
import Derived.Test.YtfiiaechippboaaDoorP10
import Derived.Test.YtfiiaechippboaaDoorP12
/- Plain: batches. No program in sight. -/
namespace Go.Proofs.YtfiiaechippboaaDoor
open Go Go.RowKit Mem

/-- Two events have one key. -/
def twiceB (l : List Event) : Bool := !decide ((l.map (·.key)).Nodup)
theorem twice_perm {l m : List Event} (h : l.Perm m) : twiceB l = twiceB m := by
  unfold twiceB; congr 1; rw [Bool.eq_iff_iff]; simpa using (h.map _).nodup_iff
theorem twice_yes {l : List Event} {i j : Nat} {x y : Event} (hx : l[i]? = some x) (hy : l[j]? = some y) (hij : i ≠ j) (hk : x.key = y.key) : twiceB l = true := by
  unfold twiceB
  rw [Bool.not_eq_true', decide_eq_false_iff_not]
  intro hn
  obtain ⟨h1, h2⟩ := List.getElem?_eq_some_iff.1 hx
  obtain ⟨g1, g2⟩ := List.getElem?_eq_some_iff.1 hy
  have e1 : (l.map (·.key))[i]? = some x.key := by simp [hx]
  have e2 : (l.map (·.key))[j]? = some x.key := by simp [hy, hk]
  obtain ⟨a1, a2⟩ := List.getElem?_eq_some_iff.1 e1
  obtain ⟨b1, b2⟩ := List.getElem?_eq_some_iff.1 e2
  exact hij ((List.getElem_inj hn).1 (a2.trans b2.symm))
theorem sortE_up (l : List Event) : (sortE l).Pairwise (fun x y => y.key.lt x.key = false) := by
  obtain ⟨ys, _, hs, e⟩ := sortE_ex l
  rw [← e, List.pairwise_map]
  refine List.Pairwise.imp (fun {x y} h => ?_) hs
  rcases h with h | h
  · exact Key.lt_asymm' h
  · exact h.1
theorem nodup_rise : ∀ {s : List Event}, s.Pairwise (fun x y => y.key.lt x.key = false) → (∀ (q : Nat) x y, s[q]? = some x → s[q + 1]? = some y → x.key ≠ y.key) → (s.map (·.key)).Nodup
  | [], _, _ => List.nodup_nil
  | [x], _, _ => by simp
  | x :: y :: s, hp, hq => by
    have ih := nodup_rise (s := y :: s) (List.pairwise_cons.1 hp).2 (fun q a b ha hb => hq (q + 1) a b (by simpa using ha) (by simpa using hb))
    rw [List.map_cons, List.nodup_cons]
    refine ⟨fun hm => ?_, ih⟩
    obtain ⟨z, hz, e⟩ := List.mem_map.1 hm
    have h1 := (List.pairwise_cons.1 hp).1 y (by simp)
    have h2 : z.key.lt y.key = false := by
      rcases List.mem_cons.1 hz with rfl | hz
      · exact Key.lt_irrefl' _
      · exact (List.pairwise_cons.1 (List.pairwise_cons.1 hp).2).1 z hz
    have h3 := hq 0 x y rfl rfl
    exact h3 (Key.eq_of (by rw [← e]; exact h2) h1)
theorem twice_no {l : List Event} (h : ∀ (q : Nat) x y, (sortE l)[q]? = some x → (sortE l)[q + 1]? = some y → x.key ≠ y.key) : twiceB l = false := by
  rw [← twice_perm (sortE_perm l)]
  unfold twiceB
  rw [Bool.not_eq_false', decide_eq_true_eq]
  exact nodup_rise (sortE_up l) h
def procE (n : Nat) (lp : Int) : Int := if lp < 0 ∨ (n : Int) ≤ lp then 10 else 0
def atE (l : List Event) : Int := match l with | [] => 0 | x :: _ => x.key.at_
/-- What is wrong with events that are to be one batch. -/
def wrongE (n : Nat) (lp : Int) (l : List Event) : Int :=
  if lp < 0 ∨ (n : Int) ≤ lp then 10 else if l.length = 0 then 14 else if ¬ (∀ x ∈ l, x.dst = lp) then 10 else if ¬ (∀ x ∈ l, x.key.at_ = atE l) then 18 else if twiceB l = true then 13 else 0
def msgE (n : Nat) (fin at_ : Int) (y : Emit) : Bool := decide (0 ≤ y.dst ∧ y.dst < n ∧ 1 ≤ y.delay ∧ y.delay ≤ 1073741824 ∧ at_ + y.delay ≤ fin)
def sendE (n : Nat) (fin lp at_ : Int) (out : List Event) (y : Emit) : List Event :=
  if msgE n fin at_ y = true then out ++ [⟨⟨at_ + y.delay, lp, at_, out.length⟩, y.dst, y.kind, y.data⟩] else out
def oneE (p : List Instr) (n : Nat) (fin fuel fan lp at_ : Int) (st : State × List Event) (x : Event) : State × List Event :=
  ((runE p st.1 x fuel fan).state, (runE p st.1 x fuel fan).sent.foldl (sendE n fin lp at_) st.2)
/-- A batch: another state, and what is sent. -/
def batchE (p : List Instr) (n : Nat) (fin fuel fan lp : Int) (s : State) (l : List Event) : State × List Event :=
  (sortE l).foldl (oneE p n fin fuel fan lp (atE l)) (s, [])
theorem send_len {n : Nat} {fin lp at_ : Int} : ∀ (em : List Emit) (out : List Event), (em.foldl (sendE n fin lp at_) out).length ≤ out.length + em.length
  | [], out => Nat.le_refl _
  | y :: em, out => by
    have h := send_len (n := n) (fin := fin) (lp := lp) (at_ := at_) em (sendE n fin lp at_ out y)
    have h2 : (sendE n fin lp at_ out y).length ≤ out.length + 1 := by unfold sendE; split <;> simp
    simp only [List.foldl_cons, List.length_cons]
    omega
theorem doE_fan {e : Event} {fan : Int} {m : Mach} {x : Instr} (h : (m.sent.length : Int) ≤ fan) : ((doE e fan m x).sent.length : Int) ≤ fan := by
  have key : ∀ {c : Prop} [Decidable c] {a b : Mach}, (c → (a.sent.length : Int) ≤ fan) → (¬ c → (b.sent.length : Int) ≤ fan) → ((if c then a else b).sent.length : Int) ≤ fan := by
    intro c _ a b ha hb
    by_cases h : c
    · rw [if_pos h]; exact ha h
    · rw [if_neg h]; exact hb h
  unfold doE
  repeat' (refine key (fun _ => ?_) (fun _ => ?_))
  all_goals first | exact h | (simp; omega)
theorem stepsE_fan {p : List Instr} {e : Event} {fan : Int} : ∀ (n : Nat) (m : Mach), (m.sent.length : Int) ≤ fan → ((stepsE p e fan n m).sent.length : Int) ≤ fan
  | 0, m, h => h
  | n + 1, m, h => by
    unfold stepsE
    cases hs : stepE p e fan m with
    | none => exact h
    | some m2 =>
      refine stepsE_fan n m2 ?_
      unfold stepE at hs
      split at hs
      · cases hs
      · split at hs
        · cases hs
        · split at hs
          · cases hs
          · cases hs; exact doE_fan h
/-- A handler sends no more than it may. -/
theorem runE_fan {p : List Instr} {s : State} {e : Event} {fuel fan : Int} (h0 : 0 ≤ fan) : ((runE p s e fuel fan).sent.length : Int) ≤ fan := stepsE_fan _ _ (by simpa [startE] using h0)
theorem ones_len {p : List Instr} {n : Nat} {fin fuel fan lp at_ : Int} (h0 : 0 ≤ fan) : ∀ (l : List Event) (st : State × List Event), ((l.foldl (oneE p n fin fuel fan lp at_) st).2.length : Int) ≤ st.2.length + fan * l.length
  | [], st => by simp
  | x :: l, st => by
    have h := ones_len (p := p) (n := n) (fin := fin) (fuel := fuel) (lp := lp) (at_ := at_) h0 l (oneE p n fin fuel fan lp at_ st x)
    have h2 : ((oneE p n fin fuel fan lp at_ st x).2.length : Int) ≤ st.2.length + fan := by
      have := send_len (n := n) (fin := fin) (lp := lp) (at_ := at_) (runE p st.1 x fuel fan).sent st.2
      have := runE_fan (p := p) (s := st.1) (e := x) (fuel := fuel) h0
      show (((runE p st.1 x fuel fan).sent.foldl (sendE n fin lp at_) st.2).length : Int) ≤ _
      omega
    rw [List.foldl_cons, List.length_cons, show ((l.length + 1 : Nat) : Int) = (l.length : Int) + 1 by omega, Int.mul_add, Int.mul_one]
    omega
end Go.Proofs.YtfiiaechippboaaDoor
/- Operations of one value in the midst of a region that draws its order. Over any program. -/
namespace Go.Proofs.YtfiiaechippboaaDoor.Mem
open Go Go.RowKit Reg
section
variable {P : Program} {ops : Array Oper} {Q : Exit → Act → World → Prop} {G : Nat → Prop} {w0 : World} {L : List Asn}
def closedB (ops : Array Oper) (listed : Array Bool) : Bool :=
  (List.range ops.size).all fun j => !listed.getD j false || ((ops[j]?).map (·.after.all fun e => !Region.binds .any e || listed.getD e.on false)).getD true
theorem closed_of {listed : Array Bool} (h : closedB ops listed = true) : Closed .any ops listed := fun j oj hj hl e he hb => by
  have h1 := List.all_eq_true.1 h j (List.mem_range.2 (Array.getElem?_eq_some_iff.1 hj).1)
  rw [hj] at h1
  simp only [hl, Option.map_some, Option.getD_some, Bool.not_true, Bool.false_or, Array.all_eq_true'] at h1
  have := h1 e he
  rw [hb] at this
  simpa using this
theorem W_mid {n f : Nat} {soft : List Nat} {T : List Asn} {listed : Array Bool} {a : Act} (hn : n = f + soft.length) (hB : (ordB ops && closedB ops listed && readyAll ops soft listed) = true)
    (h : Softs P ops Q G w0 L (fun A => W P ops Q G w0 L f T (after soft listed) A) soft a) : W P ops Q G w0 L n T listed a := by
  simp only [Bool.and_eq_true] at hB
  rw [hn]
  exact W_softs hB.1.1 soft f T listed a (closed_of hB.1.2) hB.2 h
end
end Go.Proofs.YtfiiaechippboaaDoor.Mem

import Derived.Test.YtemgonomenjjaaaGreatDoorU16
import Derived.Test.YtemgonomenjjaaaGreatDoorU14
import Derived.Test.YtemgonomenjjaaaGreatDoorU06
import Derived.Test.YtemgonomenjjaaaGreatDoorU04
import Derived.Deep.Cut
/- Plain: what is sent in a batch; and a configuration that is shared. -/
namespace Go.Proofs.YtemgonomenjjaaaGreatDoor
open Go Go.RowKit Mem

section
variable {G : Nat → Prop} {w0 w : World} {L : List Asn} {vs hs : List Value} {c : Cfg}
theorem Mem.St.cfgShare (S : St G w0 w L) (i : Nat) (hi : L[i]? = some (CfgA false vs hs c)) : St G w0 w (L.set i (CfgA true vs hs c)) :=
  S.weak hi (fun e => by cases e) (fun F h => ⟨F, fun _ hb => hb, h⟩)
end
/-- What is known of each message's event. -/
structure SentOk (n : Nat) (fin lp at_ : Int) (out : List Event) : Prop where
  each : ∀ (i : Nat) (x : Event), out[i]? = some x → x.key.src = lp ∧ x.key.sent = at_ ∧ x.key.no = i ∧ at_ < x.key.at_ ∧ x.key.at_ ≤ fin ∧ 0 ≤ x.dst ∧ x.dst < n
theorem batch_len (c : Cfg) (lp : Int) (s : State) (l : List Event) (h : 0 ≤ c.fan) : ((batchC c lp s l).2.length : Int) ≤ c.fan * l.length := by
  have := ones_len (p := progOf c lp) (n := c.lps.length) (fin := c.fin) (fuel := c.fuel) (lp := lp) (at_ := atE l) h (sortE l) (s, [])
  rw [sortE_len] at this
  have e : (s, ([] : List Event)).2.length = 0 := rfl
  rw [e] at this
  unfold batchC batchE
  omega
end Go.Proofs.YtemgonomenjjaaaGreatDoor
/- Plain: a batch that was done. -/
namespace Go.Proofs.YtemgonomenjjaaaGreatDoor
open Go Go.RowKit Mem

/-- What a process did at one time. -/
structure BatE where
  at_ : Int
  lp : Int
  ins : List Event
  thn : State
  sent : List Event
theorem twh_mem {α : Type} (p : α → Bool) : ∀ (l : List α), ∀ x ∈ l.takeWhile p, p x = true ∧ x ∈ l
  | [], x, h => by simp at h
  | a :: l, x, h => by
    by_cases e : p a = true
    · rw [List.takeWhile_cons, if_pos e] at h
      rcases List.mem_cons.1 h with rfl | h
      · exact ⟨e, by simp⟩
      · exact ⟨(twh_mem p l x h).1, List.mem_cons_of_mem _ (twh_mem p l x h).2⟩
    · rw [List.takeWhile_cons, if_neg e] at h; simp at h
end Go.Proofs.YtemgonomenjjaaaGreatDoor
/- Plain: a log of what is done for good; what is wrong with events that are to be committed; the batches of a commit. No program in sight. -/
namespace Go.Proofs.YtemgonomenjjaaaGreatDoor
open Go Go.RowKit Mem

/-- Two events have one key, and go to one process. -/
def dupB (l : List Event) : Bool := !decide ((l.map fun x => (x.key, x.dst)).Nodup)
/-- What is wrong with events that are to be committed. -/
def wrongL (n : Nat) (time below : Int) (l : List Event) : Int :=
  if below < time ∨ 1073741825 < below then 18 else if ¬ (∀ x ∈ l, time ≤ x.key.at_ ∧ x.key.at_ < below) then 18
  else if ¬ (∀ x ∈ l, 0 ≤ x.dst ∧ x.dst < n) then 10 else if dupB l = true then 13 else 0
theorem dup_perm {l m : List Event} (h : l.Perm m) : dupB l = dupB m := by
  unfold dupB; congr 1; rw [Bool.eq_iff_iff]; simpa using (h.map _).nodup_iff
theorem dup_sub {l m : List Event} (h : m.Sublist l) (hd : dupB l = false) : dupB m = false := by
  unfold dupB at *
  rw [Bool.not_eq_false', decide_eq_true_eq] at *
  exact hd.sublist (h.map _)
theorem wrongL_perm {n : Nat} {time below : Int} {l m : List Event} (h : l.Perm m) : wrongL n time below l = wrongL n time below m := by
  unfold wrongL
  have h1 : (∀ x ∈ l, time ≤ x.key.at_ ∧ x.key.at_ < below) ↔ (∀ x ∈ m, time ≤ x.key.at_ ∧ x.key.at_ < below) := ⟨fun g x hx => g x (h.mem_iff.2 hx), fun g x hx => g x (h.mem_iff.1 hx)⟩
  have h2 : (∀ x ∈ l, 0 ≤ x.dst ∧ x.dst < n) ↔ (∀ x ∈ m, 0 ≤ x.dst ∧ x.dst < n) := ⟨fun g x hx => g x (h.mem_iff.2 hx), fun g x hx => g x (h.mem_iff.1 hx)⟩
  simp only [h1, h2, dup_perm h]
structure Fine (n : Nat) (time below : Int) (l : List Event) : Prop where
  ord : time ≤ below
  top : below ≤ 1073741825
  times : ∀ x ∈ l, time ≤ x.key.at_ ∧ x.key.at_ < below
  dsts : ∀ x ∈ l, 0 ≤ x.dst ∧ x.dst < n
  once : dupB l = false
theorem wrongL_fine {n : Nat} {time below : Int} {l : List Event} : wrongL n time below l = 0 ↔ Fine n time below l := by
  constructor
  · intro h
    unfold wrongL at h
    have h1 : ¬ (below < time ∨ 1073741825 < below) := fun g => by rw [if_pos g] at h; cases h
    rw [if_neg h1] at h
    have h2 : ∀ x ∈ l, time ≤ x.key.at_ ∧ x.key.at_ < below := Classical.byContradiction fun g => by rw [if_pos g] at h; cases h
    rw [if_neg (fun g => g h2)] at h
    have h3 : ∀ x ∈ l, 0 ≤ x.dst ∧ x.dst < n := Classical.byContradiction fun g => by rw [if_pos g] at h; cases h
    rw [if_neg (fun g => g h3)] at h
    have h4 : dupB l = false := by
      cases hd : dupB l with
      | false => rfl
      | true => rw [hd, if_pos rfl] at h; cases h
    exact ⟨by omega, by omega, h2, h3, h4⟩
  · intro ⟨h1, h2, h3, h4, h5⟩
    unfold wrongL
    rw [if_neg (by omega), if_neg (fun g => g h3), if_neg (fun g => g h4), if_neg (by rw [h5]; simp)]
theorem dup_yes {l : List Event} {i j : Nat} {x y : Event} (hx : l[i]? = some x) (hy : l[j]? = some y) (hij : i ≠ j) (hk : x.key = y.key) (hd : x.dst = y.dst) : dupB l = true := by
  unfold dupB
  rw [Bool.not_eq_true', decide_eq_false_iff_not]
  intro hn
  have e1 : (l.map fun x => (x.key, x.dst))[i]? = some (x.key, x.dst) := by simp [hx]
  have e2 : (l.map fun x => (x.key, x.dst))[j]? = some (x.key, x.dst) := by simp [hy, hk, hd]
  obtain ⟨a1, a2⟩ := List.getElem?_eq_some_iff.1 e1
  obtain ⟨b1, b2⟩ := List.getElem?_eq_some_iff.1 e2
  exact hij ((List.getElem_inj hn).1 (a2.trans b2.symm))
theorem key_ext {k l : Key} (h1 : k.at_ = l.at_) (h2 : k.src = l.src) (h3 : k.sent = l.sent) (h4 : k.no = l.no) : k = l := by
  obtain ⟨a, b, c, d⟩ := k; obtain ⟨a', b', c', d'⟩ := l; simp only at h1 h2 h3 h4; subst h1; subst h2; subst h3; subst h4; rfl
theorem up_mid {x y z : Event} (h1 : ¬ evLt y x) (h2 : ¬ evLt z y) (hk : x.key = z.key) (hd : x.dst = z.dst) : x.key = y.key ∧ x.dst = y.dst := by
  have e1 : x.key.at_ = z.key.at_ := by rw [hk]
  have e2 : x.key.src = z.key.src := by rw [hk]
  have e3 : x.key.sent = z.key.sent := by rw [hk]
  have e4 : x.key.no = z.key.no := by rw [hk]
  unfold evLt at h1 h2
  have g1 : x.key.at_ = y.key.at_ := by omega
  have g2 : x.key.src = y.key.src := by omega
  have g3 : x.key.sent = y.key.sent := by omega
  have g4 : x.key.no = y.key.no := by omega
  exact ⟨key_ext g1 g2 g3 g4, by omega⟩
theorem nodup_adj : ∀ {s : List Event}, UpT s → (∀ (q : Nat) x y, s[q]? = some x → s[q + 1]? = some y → ¬ (x.key = y.key ∧ x.dst = y.dst)) → (s.map fun x => (x.key, x.dst)).Nodup
  | [], _, _ => List.nodup_nil
  | [x], _, _ => by simp
  | x :: y :: s, hp, hq => by
    have ih := nodup_adj (s := y :: s) (List.pairwise_cons.1 hp).2 (fun q a b ha hb => hq (q + 1) a b (by simpa using ha) (by simpa using hb))
    rw [List.map_cons, List.nodup_cons]
    refine ⟨fun hm => ?_, ih⟩
    obtain ⟨z, hz, e⟩ := List.mem_map.1 hm
    simp only [Prod.mk.injEq] at e
    have h1 := (List.pairwise_cons.1 hp).1 y (by simp)
    have h2 : ¬ evLt z y := by
      rcases List.mem_cons.1 hz with rfl | hz
      · exact evLt_irrefl _
      · exact (List.pairwise_cons.1 (List.pairwise_cons.1 hp).2).1 z hz
    exact hq 0 x y rfl rfl (up_mid h1 h2 e.1.symm e.2.symm)
theorem dup_no {l : List Event} (hu : UpT l) (h : ∀ (q : Nat) x y, l[q]? = some x → l[q + 1]? = some y → ¬ (x.key = y.key ∧ x.dst = y.dst)) : dupB l = false := by
  unfold dupB
  rw [Bool.not_eq_false', decide_eq_true_eq]
  exact nodup_adj hu h
/-- The events of a time, that go to a process. -/
def toldL (l : List Event) (lp : Int) : List Event := l.filter fun x => decide (x.dst = lp)
def stAt (ss : List State) (lp : Int) : State := (ss[lp.toNat]?).getD ⟨0, 0, 0, 0⟩
def lpL (c : Cfg) (at_ : Int) (l : List Event) (p : List State × List BatE) (lp : Nat) : List State × List BatE :=
  if (toldL l lp).length = 0 then p else
    (p.1.set lp (batchC c lp (stAt p.1 lp) (toldL l lp)).1, p.2 ++ [⟨at_, lp, toldL l lp, (batchC c lp (stAt p.1 lp) (toldL l lp)).1, (batchC c lp (stAt p.1 lp) (toldL l lp)).2⟩])
/-- The batches of one time. -/
def runL (c : Cfg) (at_ : Int) (l : List Event) (ss : List State) : List State × List BatE := (List.range c.lps.length).foldl (lpL c at_ l) (ss, [])
def sameT (a : Int) (x : Event) : Bool := decide (x.key.at_ = a)
/-- Events in order, parted by their times. -/
def groups : Nat → List Event → List (Int × List Event)
  | 0, _ => []
  | _ + 1, [] => []
  | k + 1, x :: l => (x.key.at_, x :: l.takeWhile (sameT x.key.at_)) :: groups k (l.dropWhile (sameT x.key.at_))
def runs (c : Cfg) : List (Int × List Event) → List State → List State × List BatE
  | [], ss => (ss, [])
  | g :: gs, ss => ((runs c gs (runL c g.1 g.2 ss).1).1, (runL c g.1 g.2 ss).2 ++ (runs c gs (runL c g.1 g.2 ss).1).2)
def timesL (c : Cfg) (l : List Event) (ss : List State) : List State × List BatE := runs c (groups l.length l) ss
structure LogE where
  ss : List State
  time : Int
  done : List BatE
def newL (c : Cfg) : LogE := ⟨c.lps.map (·.first), 0, []⟩
def comL (c : Cfg) (g : LogE) (below : Int) (l : List Event) : LogE := ⟨(timesL c (sortT l) g.ss).1, below, g.done ++ (timesL c (sortT l) g.ss).2⟩
theorem drop_len (p : Event → Bool) (l : List Event) : (l.dropWhile p).length ≤ l.length := (List.dropWhile_sublist p).length_le
theorem groups_fuel : ∀ (k k' : Nat) (l : List Event), l.length ≤ k → l.length ≤ k' → groups k l = groups k' l
  | 0, 0, _, _, _ => rfl
  | 0, k' + 1, l, h, _ => by obtain rfl := List.eq_nil_of_length_eq_zero (Nat.le_zero.1 h); rfl
  | k + 1, 0, l, _, h => by obtain rfl := List.eq_nil_of_length_eq_zero (Nat.le_zero.1 h); rfl
  | k + 1, k' + 1, [], _, _ => rfl
  | k + 1, k' + 1, x :: l, h, h' => by
    have := drop_len (sameT x.key.at_) l
    simp only [List.length_cons] at h h'
    simp only [groups]
    rw [groups_fuel k k' _ (by omega) (by omega)]
theorem timesL_nil (c : Cfg) (ss : List State) : timesL c [] ss = (ss, []) := rfl
theorem timesL_cons (c : Cfg) (x : Event) (l : List Event) (ss : List State) :
    timesL c (x :: l) ss = ((timesL c (l.dropWhile (sameT x.key.at_)) (runL c x.key.at_ (x :: l.takeWhile (sameT x.key.at_)) ss).1).1,
      (runL c x.key.at_ (x :: l.takeWhile (sameT x.key.at_)) ss).2 ++ (timesL c (l.dropWhile (sameT x.key.at_)) (runL c x.key.at_ (x :: l.takeWhile (sameT x.key.at_)) ss).1).2) := by
  unfold timesL
  simp only [List.length_cons, groups, runs]
  rw [groups_fuel l.length (l.dropWhile (sameT x.key.at_)).length _ (drop_len _ _) (Nat.le_refl _)]
/-- A state is turned by a batch. -/
def setst (ss : List State) (b : BatE) : List State := ss.set b.lp.toNat b.thn
/-- Batches, one behind the other, from states on. -/
structure BRuns (c : Cfg) (ss : List State) (bs : List BatE) (ss' : List State) : Prop where
  fin : bs.foldl setst ss = ss'
  each : ∀ (k : Nat) (b : BatE), bs[k]? = some b → 0 ≤ b.lp ∧ b.lp < c.lps.length ∧ 0 < b.ins.length ∧ (∀ x ∈ b.ins, x.dst = b.lp ∧ x.key.at_ = b.at_) ∧ UpT b.ins ∧
    batchC c b.lp (stAt ((bs.take k).foldl setst ss) b.lp) b.ins = (b.thn, b.sent)
theorem BRuns.nil (c : Cfg) (ss : List State) : BRuns c ss [] ss := ⟨rfl, fun k b h => by simp at h⟩
theorem BRuns.append {c : Cfg} {ss ss1 ss2 : List State} {bs bs' : List BatE} (h : BRuns c ss bs ss1) (h' : BRuns c ss1 bs' ss2) : BRuns c ss (bs ++ bs') ss2 := by
  refine ⟨by rw [List.foldl_append, h.fin, h'.fin], fun k b hk => ?_⟩
  by_cases hl : k < bs.length
  · rw [List.getElem?_append_left hl] at hk
    rw [List.take_append_of_le_length (by omega)]
    exact h.each k b hk
  · rw [List.getElem?_append_right (by omega)] at hk
    have := h'.each _ b hk
    rw [List.take_append, List.take_of_length_le (by omega), List.foldl_append, h.fin]
    exact this
theorem told_mem {l : List Event} {lp : Int} {x : Event} : x ∈ toldL l lp ↔ x ∈ l ∧ x.dst = lp := by unfold toldL; rw [List.mem_filter, decide_eq_true_eq]
theorem told_sub (l : List Event) (lp : Int) : (toldL l lp).Sublist l := List.filter_sublist
/-- What was done of one time up to a process. -/
def lpsL (c : Cfg) (at_ : Int) (l : List Event) (ss : List State) (j : Nat) : List State × List BatE := (List.range j).foldl (lpL c at_ l) (ss, [])
theorem lps_succ (c : Cfg) (at_ : Int) (l : List Event) (ss : List State) (j : Nat) : lpsL c at_ l ss (j + 1) = lpL c at_ l (lpsL c at_ l ss j) j := by
  unfold lpsL; rw [List.range_succ, List.foldl_append]; rfl
theorem lps_runs (c : Cfg) (at_ : Int) (l : List Event) (ss : List State) (hl : ∀ x ∈ l, x.key.at_ = at_) (hu : UpT l) : ∀ j, j ≤ c.lps.length →
    BRuns c ss (lpsL c at_ l ss j).2 (lpsL c at_ l ss j).1 ∧ (∀ b ∈ (lpsL c at_ l ss j).2, b.at_ = at_ ∧ b.lp < j) ∧ (lpsL c at_ l ss j).2.Pairwise (fun a b => a.lp < b.lp) ∧
    ((lpsL c at_ l ss j).2.flatMap (·.ins)).Perm (l.filter fun x : Event => decide (0 ≤ x.dst ∧ x.dst < (j : Int)))
  | 0, _ => ⟨BRuns.nil _ _, by simp [lpsL], by simp [lpsL], by
    have : (l.filter fun x : Event => decide (0 ≤ x.dst ∧ x.dst < ((0 : Nat) : Int))) = [] := by
      rw [List.filter_eq_nil_iff]; intro x _; simp
    rw [this]; exact .refl _⟩
  | j + 1, hj => by
    obtain ⟨h1, h2, h3, h4⟩ := lps_runs c at_ l ss hl hu j (by omega)
    rw [lps_succ]
    have hsplit : (l.filter fun x : Event => decide (0 ≤ x.dst ∧ x.dst < ((j + 1 : Nat) : Int))).Perm ((l.filter fun x : Event => decide (0 ≤ x.dst ∧ x.dst < (j : Int))) ++ toldL l j) := by
      unfold toldL
      clear h1 h2 h3 h4 hl hu
      induction l with
      | nil => exact .refl _
      | cons x l ih =>
        by_cases e1 : x.dst = j
        · rw [List.filter_cons_of_pos (by simp; omega), List.filter_cons_of_neg (by simp; omega), List.filter_cons_of_pos (by simp [e1])]
          exact (ih.cons x).trans List.perm_middle.symm
        · by_cases e2 : 0 ≤ x.dst ∧ x.dst < (j : Int)
          · rw [List.filter_cons_of_pos (by simp; omega), List.filter_cons_of_pos (by simp; omega), List.filter_cons_of_neg (by simp [e1])]
            exact ih.cons x
          · rw [List.filter_cons_of_neg (by simp; omega), List.filter_cons_of_neg (by simp; omega), List.filter_cons_of_neg (by simp [e1])]
            exact ih
    unfold lpL
    split
    · rename_i h0
      have h0 := List.eq_nil_of_length_eq_zero h0
      rw [h0, List.append_nil] at hsplit
      exact ⟨h1, fun b hb => ⟨(h2 b hb).1, by have := (h2 b hb).2; omega⟩, h3, h4.trans hsplit.symm⟩
    · rename_i h0
      refine ⟨h1.append ⟨by simp [setst], fun k b hk => ?_⟩, fun b hb => ?_, ?_, ?_⟩
      · cases k with
        | zero =>
          simp only [List.getElem?_cons_zero, Option.some.injEq] at hk
          subst hk
          exact ⟨by simp only; omega, by simp only; omega, by simp only; omega, fun x hx => ⟨(told_mem.1 hx).2, hl x (told_mem.1 hx).1⟩, hu.sublist (told_sub _ _), rfl⟩
        | succ k => simp at hk
      · rcases List.mem_append.1 hb with hb | hb
        · exact ⟨(h2 b hb).1, by have := (h2 b hb).2; omega⟩
        · rw [List.mem_singleton] at hb; subst hb; exact ⟨rfl, by simp only; omega⟩
      · refine List.pairwise_append.2 ⟨h3, by simp, fun a ha b hb => ?_⟩
        rw [List.mem_singleton] at hb; subst hb
        exact (h2 a ha).2
      · rw [List.flatMap_append]
        refine List.Perm.trans ?_ hsplit.symm
        simpa using h4.append_right _
theorem run_runs (c : Cfg) (at_ : Int) (l : List Event) (ss : List State) (hl : ∀ x ∈ l, x.key.at_ = at_) (hu : UpT l) (hd : ∀ x ∈ l, 0 ≤ x.dst ∧ x.dst < c.lps.length) :
    BRuns c ss (runL c at_ l ss).2 (runL c at_ l ss).1 ∧ (∀ b ∈ (runL c at_ l ss).2, b.at_ = at_) ∧ (runL c at_ l ss).2.Pairwise (fun a b => a.lp < b.lp) ∧ ((runL c at_ l ss).2.flatMap (·.ins)).Perm l := by
  obtain ⟨h1, h2, h3, h4⟩ := lps_runs c at_ l ss hl hu c.lps.length (Nat.le_refl _)
  refine ⟨h1, fun b hb => (h2 b hb).1, h3, ?_⟩
  rw [List.filter_eq_self.2 (fun x hx => by simp; exact hd x hx)] at h4
  exact h4
def BefE (a b : BatE) : Prop := a.at_ < b.at_ ∨ (a.at_ = b.at_ ∧ a.lp < b.lp)
theorem up_at {x y : Event} (h : ¬ evLt y x) : x.key.at_ ≤ y.key.at_ := by unfold evLt at h; omega
theorem times_runs (c : Cfg) : ∀ (n : Nat) (l : List Event) (ss : List State), l.length ≤ n → UpT l → (∀ x ∈ l, 0 ≤ x.dst ∧ x.dst < c.lps.length) →
    BRuns c ss (timesL c l ss).2 (timesL c l ss).1 ∧ (∀ b ∈ (timesL c l ss).2, ∃ x ∈ l, b.at_ = x.key.at_) ∧ (timesL c l ss).2.Pairwise BefE ∧ ((timesL c l ss).2.flatMap (·.ins)).Perm l
  | n, [], ss, _, _, _ => ⟨BRuns.nil _ _, by simp [timesL_nil], by simp [timesL_nil], .refl _⟩
  | 0, x :: l, _, h, _, _ => by simp at h
  | n + 1, x :: l, ss, hn, hu, hd => by
    have hu' := List.pairwise_cons.1 hu
    rw [timesL_cons]
    generalize hq : runL c x.key.at_ (x :: l.takeWhile (sameT x.key.at_)) ss = q
    have hsub : (x :: l.takeWhile (sameT x.key.at_)).Sublist (x :: l) := (List.takeWhile_sublist _).cons_cons _
    obtain ⟨h1, h2, h3, h4⟩ := run_runs c x.key.at_ (x :: l.takeWhile (sameT x.key.at_)) ss (fun y hy => by
      rcases List.mem_cons.1 hy with rfl | hy
      · rfl
      · have := (twh_mem _ l y hy).1; simpa [sameT] using this) (hu.sublist hsub) (fun y hy => hd y (hsub.subset hy))
    rw [hq] at h1 h2 h3 h4
    have hds : (l.dropWhile (sameT x.key.at_)).Sublist l := List.dropWhile_sublist _
    have hdl := drop_len (sameT x.key.at_) l
    simp only [List.length_cons] at hn
    obtain ⟨g1, g2, g3, g4⟩ := times_runs c n (l.dropWhile (sameT x.key.at_)) q.1 (by omega) (hu'.2.sublist hds) (fun y hy => hd y (List.mem_cons_of_mem _ (hds.subset hy)))
    have hlate : ∀ y ∈ l.dropWhile (sameT x.key.at_), x.key.at_ < y.key.at_ := by
      have key : ∀ m : List Event, UpT m → (∀ y ∈ m, x.key.at_ ≤ y.key.at_) → ∀ y ∈ m.dropWhile (sameT x.key.at_), x.key.at_ < y.key.at_ := by
        intro m
        induction m with
        | nil => intro _ _ y hy; simp at hy
        | cons z m ih =>
          intro hm hx y hy
          have hm' := List.pairwise_cons.1 hm
          rw [List.dropWhile_cons] at hy
          split at hy
          · exact ih hm'.2 (fun y hy => hx y (List.mem_cons_of_mem _ hy)) y hy
          · rename_i hz
            simp only [sameT, decide_eq_true_eq] at hz
            have h0 := hx z (by simp)
            rcases List.mem_cons.1 hy with rfl | hy
            · omega
            · have := up_at (hm'.1 y hy); omega
      exact key l hu'.2 (fun y hy => up_at (hu'.1 y hy))
    refine ⟨h1.append g1, fun b hb => ?_, ?_, ?_⟩
    · rcases List.mem_append.1 hb with hb | hb
      · exact ⟨x, by simp, h2 b hb⟩
      · obtain ⟨y, hy, e⟩ := g2 b hb
        exact ⟨y, List.mem_cons_of_mem _ (hds.subset hy), e⟩
    · refine List.pairwise_append.2 ⟨?_, g3, fun a ha b hb => ?_⟩
      · refine (List.Pairwise.and_mem.1 h3).imp fun {a b} h => .inr ⟨?_, h.2.2⟩
        rw [h2 a h.1, h2 b h.2.1]
      · obtain ⟨y, hy, e⟩ := g2 b hb
        have := hlate y hy
        have := h2 a ha
        exact .inl (by omega)
    · rw [List.flatMap_append]
      refine (h4.append g4).trans ?_
      rw [List.cons_append, List.takeWhile_append_dropWhile]
theorem flat_sub : ∀ {bs : List BatE} {b : BatE}, b ∈ bs → b.ins.Sublist (bs.flatMap (·.ins))
  | [], _, hb => by simp at hb
  | a :: bs, b, hb => by
    rw [List.flatMap_cons]
    rcases List.mem_cons.1 hb with rfl | hb
    · exact List.sublist_append_left _ _
    · exact (flat_sub hb).trans (List.sublist_append_right _ _)
theorem twice_of_dup {m : List Event} {lp : Int} (hnd : dupB m = false) (h4 : ∀ x ∈ m, x.dst = lp) : twiceB m = false := by
  unfold twiceB
  unfold dupB at hnd
  rw [Bool.not_eq_false', decide_eq_true_eq] at *
  induction m with
  | nil => exact List.nodup_nil
  | cons x m ih =>
    rw [List.map_cons, List.nodup_cons] at *
    refine ⟨fun hm => hnd.1 ?_, ih hnd.2 (fun y hy => h4 y (List.mem_cons_of_mem _ hy))⟩
    obtain ⟨y, hy, e⟩ := List.mem_map.1 hm
    exact List.mem_map.2 ⟨y, hy, by rw [e, h4 x (by simp), h4 y (List.mem_cons_of_mem _ hy)]⟩
/-- A batch's events are without fault. -/
theorem runs_wrong {c : Cfg} {ss ss' : List State} {bs : List BatE} {l : List Event} (h : BRuns c ss bs ss') (hp : (bs.flatMap (·.ins)).Perm l) (hd : dupB l = false) : ∀ b ∈ bs, wrongE c.lps.length b.lp b.ins = 0 ∧ atE b.ins = b.at_ := by
  intro b hb
  obtain ⟨k, hk, e⟩ := List.mem_iff_getElem.1 hb
  obtain ⟨h1, h2, h3, h4, h5, _⟩ := h.each k b (by rw [List.getElem?_eq_getElem hk, e])
  have hsub : b.ins.Sublist (bs.flatMap (·.ins)) := flat_sub hb
  have hnd : dupB b.ins = false := dup_sub hsub (by rw [dup_perm hp]; exact hd)
  have hat : atE b.ins = b.at_ := by
    cases hi : b.ins with
    | nil => rw [hi] at h3; simp at h3
    | cons x t => exact (h4 x (by rw [hi]; simp)).2
  refine ⟨?_, hat⟩
  unfold wrongE
  rw [if_neg (by omega), if_neg (by omega), if_neg (fun g => g fun x hx => (h4 x hx).1), if_neg (fun g => g fun x hx => by rw [hat]; exact (h4 x hx).2), if_neg]
  rw [twice_of_dup hnd (fun x hx => (h4 x hx).1)]
  simp
/-- What a rule makes of events. -/
def ruleC (c : Cfg) (lp : Int) (s : State) (l : List Event) : State × List Event :=
  if wrongE c.lps.length lp (once (sortT l)) = 0 then batchC c lp s (once (sortT l)) else (s, [])
theorem once_nodup : ∀ (l : List Event) (k : Option Key), (l.map (·.key)).Nodup → (∀ x ∈ l, k ≠ some x.key) → onceFrom k l = l
  | [], _, _, _ => rfl
  | x :: l, k, h, hk => by
    rw [List.map_cons, List.nodup_cons] at h
    unfold onceFrom
    rw [if_neg (hk x (by simp)), once_nodup l _ h.2 (fun y hy e => h.1 (by
      simp only [Option.some.injEq] at e
      rw [e]; exact List.mem_map.2 ⟨y, hy, rfl⟩))]
theorem sortT_id {l : List Event} (h : UpT l) : sortT l = l := (sortT_eq (.refl l) h).symm
theorem wrong_nodup {n : Nat} {lp : Int} {l : List Event} (h : wrongE n lp l = 0) : (l.map (·.key)).Nodup := by
  unfold wrongE at h
  split at h
  · cases h
  · split at h
    · cases h
    · split at h
      · cases h
      · split at h
        · cases h
        · split at h
          · cases h
          · rename_i g
            unfold twiceB at g
            simpa using g
theorem rule_batch {c : Cfg} {lp : Int} {s : State} {l : List Event} (hw : wrongE c.lps.length lp l = 0) (hu : UpT l) : ruleC c lp s l = batchC c lp s l := by
  unfold ruleC
  rw [sortT_id hu, show once l = l from once_nodup l none (wrong_nodup hw) (fun _ _ e => by cases e), if_pos hw]
end Go.Proofs.YtemgonomenjjaaaGreatDoor
/- Things put in another order; several slices and several more. Over any program. -/
namespace Go.Proofs.YtemgonomenjjaaaGreatDoor.Mem
open Go Go.RowKit

theorem St.swap2 {G : Nat → Prop} {w0 w : World} {L : List Asn} {A B : Asn} (S : St G w0 w (A :: B :: L)) : St G w0 w (B :: A :: L) := by
  obtain ⟨Fs, hf, hd⟩ := S.ex
  have g : ∀ i : Nat, ∀ X : Asn, (B :: A :: L)[i]? = some X → (A :: B :: L)[(match i with | 0 => 1 | 1 => 0 | i + 2 => i + 2 : Nat)]? = some X := by
    intro i X h
    match i with
    | 0 => exact h
    | 1 => exact h
    | i + 2 => exact h
  refine ⟨S.keep, fun i => Fs (match i with | 0 => 1 | 1 => 0 | i + 2 => i + 2 : Nat), fun i X hi => hf _ X (g i X hi), fun i j X Y hij hi hj => ?_⟩
  have hi' := g i X hi
  have hj' := g j Y hj
  match i, j, hij with
  | 0, 1, _ =>
    rcases hd 0 1 Y X (by omega) hj' hi' with ⟨e1, e2⟩ | e
    · exact .inl ⟨e2, e1⟩
    · exact .inr fun x hx hx' => e x hx' hx
  | 0, j + 2, _ => exact hd 1 (j + 2) X Y (by omega) hi' hj'
  | 1, j + 2, _ => exact hd 0 (j + 2) X Y (by omega) hi' hj'
  | i + 2, j + 2, h => exact hd (i + 2) (j + 2) X Y (by omega) hi' hj'
  | 0, 0, h => omega
  | i + 1, 0, h => omega
  | i + 1, 1, h => omega
section
variable {G : Nat → Prop} {w0 w w' : World} {L : List Asn} {A A' B C : Asn} {i : Nat}
/-- Several slices, and several more. -/
theorem St.slsAppend {α : Type} {enc : α → List Value} {k : Nat} {vs vs' : List Value} {xss xss' : List (List α)} (S : St G w0 w (Sls false enc k vs xss :: Sls false enc k vs' xss' :: L)) : St G w0 w (Sls false enc k (vs ++ vs') (xss ++ xss') :: L) :=
  S.merge _ rfl rfl rfl fun F F' h h' => by
    refine ⟨⟨by simp [h'.1.1, h.1.1], fun j u ys hu hy => ?_⟩, fun b hb => hb.elim (h.2 b) (h'.2 b)⟩
    by_cases hj : j < vs.length
    · rw [List.getElem?_append_left hj] at hu
      rw [List.getElem?_append_left (by rw [← h.1.1]; exact hj)] at hy
      exact (h.1.2 j u ys hu hy).mono fun _ => .inl
    · rw [List.getElem?_append_right (by omega)] at hu
      rw [List.getElem?_append_right (by have := h.1.1; omega)] at hy
      rw [← h.1.1] at hy
      exact (h'.1.2 _ u ys hu hy).mono fun _ => .inr
end
end Go.Proofs.YtemgonomenjjaaaGreatDoor.Mem
/- A batch with where its slices lie. -/
namespace Go.Proofs.YtemgonomenjjaaaGreatDoor
open Go Go.RowKit Reg Mem

theorem own_hd {α : Type} {E : TypeId} {enc : α → List Value} {k : Nat} {v : Value} {xs : List α} {G : Nat → Prop} {w0 w : World} {L : List Asn} (i : Nat) (S : St G w0 w L) (hi : L[i]? = some (Own E enc k v xs)) (h0 : 0 < xs.length) : ∃ R c, v = .slice (some ⟨R, 0, none⟩) xs.length c := by
  obtain ⟨F1, h1, _⟩ := S.get hi
  obtain ⟨R, c, cur, e, _⟩ := h1.some (by omega)
  exact ⟨R, c, e⟩
theorem take_snoc {α : Type} {l : List α} {j : Nat} {x : α} (h : l[j]? = some x) : l.take (j + 1) = l.take j ++ [x] := by
  rw [List.take_add_one, h]; rfl
theorem sacells : ∀ e : State, e.cells.length = 4 := fun _ => rfl
theorem saone : ∀ e : State, ∀ u ∈ e.cells, u.oneCell' = true := fun _ => by simp [State.cells, Value.oneCell']
/-- A batch with where its slices lie. -/
structure BatV where
  b : BatE
  ai : Option Addr
  ci : Nat
  ao : Option Addr
  co : Nat
def BatV.vi (x : BatV) : Value := .slice x.ai x.b.ins.length x.ci
def BatV.vo (x : BatV) : Value := .slice x.ao x.b.sent.length x.co
def BatV.cells (x : BatV) : List Value := [.int .i64 x.b.at_, .int .i64 x.b.lp, .slice x.ai x.b.ins.length x.ci, .int .i64 x.b.thn.n0, .int .i64 x.b.thn.n1, .int .i64 x.b.thn.n2, .int .i64 x.b.thn.n3, .slice x.ao x.b.sent.length x.co]
theorem bvcells : ∀ x : BatV, x.cells.length = 8 := fun _ => rfl
theorem bvone : ∀ x : BatV, ∀ u ∈ x.cells, u.oneCell' = true := fun _ => by simp [BatV.cells, Value.oneCell']
set_option maxRecDepth 100000 in
theorem elem_Bat : Elem Tryz.prog 44 54 8 96 := ⟨_, .agg #[.int .i64 0, .int .i64 0, .slice none 0 0, .int .i64 0, .int .i64 0, .int .i64 0, .int .i64 0, .slice none 0 0], Tryz.underlying44, rfl, by kernel_rfl, by kernel_rfl, by kernel_rfl, by kernel_rfl, by omega⟩
end Go.Proofs.YtemgonomenjjaaaGreatDoor
/- Lists of states; slices.Clone of them. -/
namespace Go.Proofs.YtemgonomenjjaaaGreatDoor
open Go Go.RowKit Reg Mem

set_option maxRecDepth 100000 in
theorem elem_Sst : Elem Tryz.prog 42 52 4 32 := ⟨_, .agg #[.int .i64 0, .int .i64 0, .int .i64 0, .int .i64 0], Tryz.underlying42, rfl, by kernel_rfl, by kernel_rfl, by kernel_rfl, by kernel_rfl, by omega⟩
set_option maxRecDepth 100000 in
/-- slices.Clone. -/
theorem clone_Sst {ad : Option Addr} {n c : Nat} {xs : List _} (w : World) (F : Nat → Prop) (h : (Sl true State.cells 4 (.slice ad n c) xs).at_ w F) (hn : xs.length ≤ 4294967296) :
    Calls Tryz.prog 27 #[.slice ad n c] w fun e w' => ∃ ad' c', e = .returned (.slice ad' xs.length c') ∧ (0 < xs.length → ∃ R, ad' = some ⟨R, 0, none⟩) ∧ St (fun _ => False) w w' [Own 52 State.cells 4 (.slice ad' xs.length c') xs] := by
  have S : St (fun _ => False) w w [Sl true State.cells 4 (.slice ad n c) xs] := (St.init _ w).share rfl rfl h
  have hq : ∀ (w : World) (a : Option Addr) (n c n' c' : Nat), (binOp .eql 42 (.slice a n c) (.slice none n' c')).run Tryz.prog w = .ok (.bool a.isNone) w := fun w a n c n' c' => Lib.run_eql_slice_nil w _ _ a n c n' c' Tryz.underlying42
  cases ad with
  | none =>
    have hx : xs = [] := by
      obtain ⟨a, c', e, h1, h2, _⟩ := h.1
      simp only [Value.slice.injEq] at e
      obtain ⟨rfl, rfl, rfl⟩ := e
      exact List.eq_nil_of_length_eq_zero (by have := h2 rfl; omega)
    subst hx
    go_enter Tryz.func27, Tryz.ntmps27
    go_wp2_with first | ((with_reducible refine tot_done ?ht ?_); (case ht => kernel_rfl))
    go_ret
    exact ⟨_, _, rfl, fun h => absurd h (by simp), ((S.nil 52 State.cells 4).pick [0] rfl)⟩
  | some a0 =>
    go_enter Tryz.func27, Tryz.ntmps27
    go_wp2_with first | ((with_reducible apply wps_build0 (T := 42) (E := 52) State.cells 4 S); (case hr => intro w; kernel_rfl); clear S; intro bz wz S) | ((with_reducible apply wps_appends elem_Sst sacells saone (by decide) S 0 (j := 1)); (case hx | hy | hi | hj => rfl); (case hl => first | omega | (simp; omega)); clear S; intro az nz cz wz hnz S; simp only [List.set_cons_zero] at S)
    go_ret
    obtain rfl : nz = xs.length := by have := hnz.out; simp at this; omega
    simp only [List.nil_append] at S
    refine ⟨_, _, rfl, fun h0 => ?_, S.pick [0] rfl⟩
    obtain ⟨F, hF⟩ := S.get (i := 0) rfl
    rcases hF.1.2 with ⟨_, e⟩ | ⟨g, cap, cur, e, _⟩
    · omega
    · simp only [Value.slice.injEq] at e; exact ⟨g, e.1⟩
end Go.Proofs.YtemgonomenjjaaaGreatDoor
/- A log as a thing of the state; the walks of New, Time, Len and States. -/
namespace Go.Proofs.YtemgonomenjjaaaGreatDoor
open Go Go.RowKit Reg Mem

/-- A log: its block, its states, and its batches. -/
def logA (X R : Nat) (g : LogE) : Asn := exs false fun p : Value × Value × List BatV =>
  sep false (pur (p.2.2.map (·.b) = g.done)) (sep false (Blk false X #[.pointer (some ⟨R, 0, none⟩), p.1, .int .i64 g.time, p.2.1] 80)
    (sep false (Own 52 State.cells 4 p.1 g.ss) (sep false (Own 54 BatV.cells 8 p.2.1 p.2.2)
      (sep false (Sls false Event.cells 7 (p.2.2.map (·.vi)) (p.2.2.map (·.b.ins))) (Sls false Event.cells 7 (p.2.2.map (·.vo)) (p.2.2.map (·.b.sent)))))))
theorem log_open {G : Nat → Prop} {w0 w : World} {L : List Asn} {X R : Nat} {g : LogE} (S : St G w0 w (logA X R g :: L)) :
    ∃ v1 v2 l, l.map (·.b) = g.done ∧ St G w0 w (Sls false Event.cells 7 (l.map (·.vi)) (l.map (·.b.ins)) :: Sls false Event.cells 7 (l.map (·.vo)) (l.map (·.b.sent)) :: Own 54 BatV.cells 8 v2 l :: Own 52 State.cells 4 v1 g.ss :: Blk false X #[.pointer (some ⟨R, 0, none⟩), v1, .int .i64 g.time, v2] 80 :: L) := by
  obtain ⟨⟨v1, v2, l⟩, S⟩ := S.open_exs (fun _ => rfl)
  obtain ⟨h1, S⟩ := (S.open_sep rfl rfl).open_pur
  exact ⟨v1, v2, l, h1, (((S.open_sep rfl rfl).swap2.open_sep rfl rfl).swap2.open_sep rfl rfl).swap2.open_sep rfl rfl⟩
theorem log_close {G : Nat → Prop} {w0 w : World} {L : List Asn} {X R : Nat} {g : LogE} {v1 v2 : Value} {l : List BatV} (hl : l.map (·.b) = g.done)
    (S : St G w0 w (Sls false Event.cells 7 (l.map (·.vi)) (l.map (·.b.ins)) :: Sls false Event.cells 7 (l.map (·.vo)) (l.map (·.b.sent)) :: Own 54 BatV.cells 8 v2 l :: Own 52 State.cells 4 v1 g.ss :: Blk false X #[.pointer (some ⟨R, 0, none⟩), v1, .int .i64 g.time, v2] 80 :: L)) : St G w0 w (logA X R g :: L) :=
  ((((((S.close_sep rfl rfl).swap2.close_sep rfl rfl).swap2.close_sep rfl rfl).swap2.close_sep rfl rfl).close_pur hl).close_sep rfl rfl).close_exs (A := fun p : Value × Value × List BatV =>
  sep false (pur (p.2.2.map (·.b) = g.done)) (sep false (Blk false X #[.pointer (some ⟨R, 0, none⟩), p.1, .int .i64 g.time, p.2.1] 80)
    (sep false (Own 52 State.cells 4 p.1 g.ss) (sep false (Own 54 BatV.cells 8 p.2.1 p.2.2)
      (sep false (Sls false Event.cells 7 (p.2.2.map (·.vi)) (p.2.2.map (·.b.ins))) (Sls false Event.cells 7 (p.2.2.map (·.vo)) (p.2.2.map (·.b.sent)))))))) (v1, v2, l) rfl
theorem logR_st {X R : Nat} {g : LogE} {w : World} {F : Nat → Prop} (h : (logA X R g).at_ w F) :
    ∃ v1 v2 l, l.map (·.b) = g.done ∧ St (fun _ => False) w w [Sls true Event.cells 7 (l.map (·.vi)) (l.map (·.b.ins)), Sls true Event.cells 7 (l.map (·.vo)) (l.map (·.b.sent)), Sl true BatV.cells 8 v2 l, Sl true State.cells 4 v1 g.ss, Blk true X #[.pointer (some ⟨R, 0, none⟩), v1, .int .i64 g.time, v2] 80] := by
  obtain ⟨⟨v1, v2, l⟩, F1, F2, ⟨h1, _⟩, ⟨F3, F4, h3, ⟨F5, F6, h5, ⟨F7, F8, h7, ⟨F9, F10, h9, h10, _, _⟩, _, _⟩, _, _⟩, _, _⟩, _, _⟩ := h
  refine ⟨v1, v2, l, h1, ?_⟩
  have S1 : St (fun _ => False) w w [Blk true X #[.pointer (some ⟨R, 0, none⟩), v1, .int .i64 g.time, v2] 80] := (St.init _ w).share rfl rfl h3
  have S2 := S1.share (A := Sl true State.cells 4 v1 g.ss) rfl rfl (own_sl (sh := true) sacells h5)
  have S3 := S2.share (A := Sl true BatV.cells 8 v2 l) rfl rfl (own_sl (sh := true) bvcells h7)
  have S4 := S3.share (A := Sls true Event.cells 7 (l.map fun x : BatV => x.vo) (l.map fun x : BatV => x.b.sent)) rfl rfl h10
  exact S4.share (A := Sls true Event.cells 7 (l.map fun x : BatV => x.vi) (l.map fun x : BatV => x.b.ins)) rfl rfl h9
def LNewRel (X R : Nat) (vs hs : List Value) (c : Cfg) (w : World) (i : Value) (wr : World) : Prop :=
  ∃ (j : Nat) (v1 : Value), j ≤ c.lps.length ∧ i = .int .i64 j ∧
    St (fun _ => False) w wr [ModA true 84 R vs hs c, Blk false X #[.pointer (some ⟨R, 0, none⟩), v1, .int .i64 0, .slice none 0 0] 80, Own 52 State.cells 4 v1 ((c.lps.take j).map (·.first))]
def LNewPost (R : Nat) (c : Cfg) (w : World) (e : Ending) (w' : World) : Prop :=
  ∃ X, e = .returned (.tuple #[.pointer (some ⟨X, 0, none⟩), .int .i64 0]) ∧ St (fun _ => False) w w' [logA X R (newL c)]
set_option maxRecDepth 100000 in
set_option maxHeartbeats 8000000 in
theorem lnew_calls (R : Nat) (vs hs : List Value) (c : Cfg) (w : World) (F : Nat → Prop) (h : (ModA true 84 R vs hs c).at_ w F) (hn : c.lps.length ≤ 32) :
    Calls Tryz.prog 7 #[.pointer (some ⟨R, 0, none⟩)] w (LNewPost R c w) := by
  have S : St (fun _ => False) w w [ModA true 84 R vs hs c] := (St.init _ w).share rfl rfl h
  clear h
  go_enter Tryz.func7, Tryz.ntmps7
  go_wp2_with first | ((with_reducible apply wps_boxa (E := 80) S); (case hx => rfl); clear S; intro bx wz S) | (go_at_call 11; refine Calls.mono (lps_calls _ _ _ _ _ _ (S.get (i := 1) rfl).choose_spec) ?_; rintro e wz ⟨rfl, hE⟩; replace S := S.ext (Keep.of_below hE); clear hE) | ((with_reducible apply wps_load S 0); (case hx | hi | hu => rfl); (case hT => decide +kernel))
  go_loopw [18] (fun i wr => LNewRel bx R vs hs c w i wr) (fun i _ => c.lps.length - (intOf i).toNat)
  case atStart =>
    exact ⟨0, .slice none 0 0, Nat.zero_le _, rfl, ((S.nil 52 State.cells 4).pick [2, 1, 0] rfl)⟩
  case round =>
    clear S
    obtain ⟨j, v1, hj, rfl, S⟩ := hrel
    by_cases hlt : j < c.lps.length
    · obtain ⟨p, hp⟩ : ∃ p, c.lps[j]? = some p := ⟨_, List.getElem?_eq_getElem hlt⟩
      have hlt2 : (j : Int) < c.lps.length := by omega
      obtain ⟨ssj, HSJ⟩ : ∃ l, Hid ((c.lps.take j).map (·.first) = l) := ⟨_, rfl⟩
      rw [HSJ.out] at S
      have htl : Hid (ssj.length = j) := Lib.hid (by rw [← HSJ.out, List.length_map, List.length_take]; omega)
      have hcl1 : ssj.length < 4294967296 := by rw [htl.out]; omega
      have HTS : Hid ((c.lps.take (j + 1)).map (·.first) = ssj ++ [p.first]) := Lib.hid (by rw [take_snoc hp, List.map_append, HSJ.out]; rfl)
      obtain ⟨a1, c1, rfl, _⟩ := (S.ownsl sacells 2 rfl).elim fun _ h => h.form
      have Hp := Lib.hid hp
      clear hp
      go_upto_region 7 with first | ((with_reducible apply wps_load S 3); (case hx | hi | hu => rfl); (case hT => decide +kernel))
      (refine wp_region_wt (soft := [0, 1, 2, 3, 5, 6, 7, 8, 10]) (L := [_]) (T := [_, _]) S ?hm ?hB ?_); (case hm => kernel_rfl); (case hB => decide +kernel); clear S
      iterate 9
        (with_reducible apply softs_cons)
        (case hw =>
          (with_reducible apply soft_of); (case hi => rfl)
          intro T wz S
          simp only [List.cons_append, List.nil_append] at S
          go_wp2_with first | ((with_reducible refine tot_done ?ht ?_); (case ht => kernel_rfl))
          exact ⟨rfl, S⟩)
        (case hs => exact ⟨_, rfl, by kernel_rfl⟩)
      refine softs_nil ?_
      (with_reducible apply W_hard2 (i := 4) (i' := 9)); (case hn => rfl); (case hr => decide +kernel)
      focus
        intro wz S
        (with_reducible apply hard_of); (case hi => rfl)
        simp only [List.cons_append, List.nil_append] at S
        go_wp2_with first | ((with_reducible refine tot_done ?ht ?_); (case ht => kernel_rfl)) | ((with_reducible apply wps_load S 1); (case hx | hi | hu => rfl); (case hT => decide +kernel))
        refine ⟨_, S, ?_⟩
        clear S
        (with_reducible apply W_hard1 (i := 9)); (case hn => rfl); (case hr => decide +kernel)
        intro wz S
        (with_reducible apply hard_of); (case hi => rfl)
        simp only [List.cons_append, List.nil_append] at S
        go_wp2_with first | ((with_reducible refine tot_done ?ht ?_); (case ht => kernel_rfl)) | ((with_reducible apply wps_load S 1); (case hx | hi | hu => rfl); (case hT => decide +kernel))
        refine ⟨_, S, ?_⟩
        clear S
        (refine W_mid (f := 5) (soft := [11]) rfl ?hB ?_); (case hB => decide +kernel)
        iterate 1
          (with_reducible apply softs_cons)
          (case hw =>
            (with_reducible apply soft_of); (case hi => rfl)
            intro T wz S
            simp only [List.cons_append, List.nil_append] at S
            go_wp2_with first | (go_at_call 26; refine Calls.mono (first_at _ _ _ _ _ _ j p (S.get (i := 0) rfl).choose_spec Hp.out) ?_; rintro e wz ⟨rfl, hE⟩; replace S := S.ext (Keep.of_below hE); clear hE) | ((with_reducible refine tot_done ?ht ?_); (case ht => kernel_rfl))
            exact ⟨rfl, S⟩)
          (case hs => exact ⟨_, rfl, by kernel_rfl⟩)
        refine softs_nil ?_
        (with_reducible apply W_hard1 (i := 12)); (case hn => rfl); (case hr => decide +kernel)
        intro wz S
        (with_reducible apply hard_of); (case hi => rfl)
        simp only [List.cons_append, List.nil_append] at S
        go_wp2_with first | ((with_reducible apply wps_build1a (T := 42) (E := 52) S); (case hx => rfl); (case hr => intro w; kernel_rfl); clear S; intro bz wz S) | ((with_reducible refine tot_done ?ht ?_); (case ht => kernel_rfl))
        refine ⟨_, S.pick [1, 2, 3, 0] rfl, ?_⟩
        clear S
        (with_reducible apply W_hard1 (i := 13)); (case hn => rfl); (case hr => decide +kernel)
        intro wz S
        (with_reducible apply hard_of); (case hi => rfl)
        simp only [List.cons_append, List.nil_append] at S
        go_wp2_with first | ((with_reducible apply wps_append1 elem_Sst sacells saone (by decide) S 2 (j := 3) (e := p.first)); (case hx | hy | hi | hj | he => rfl); (case hl => omega); clear S; intro az nz cz wz hnz S; simp only [List.set_cons_succ] at S) | ((with_reducible refine tot_done ?ht ?_); (case ht => kernel_rfl))
        refine ⟨_, S, ?_⟩
        clear S
        (refine W_mid (f := 1) (soft := [14, 15]) rfl ?hB ?_); (case hB => decide +kernel)
        iterate 2
          (with_reducible apply softs_cons)
          (case hw =>
            (with_reducible apply soft_of); (case hi => rfl)
            intro T wz S
            simp only [List.cons_append, List.nil_append] at S
            go_wp2_with first | ((with_reducible refine tot_done ?ht ?_); (case ht => kernel_rfl))
            exact ⟨rfl, S⟩)
          (case hs => exact ⟨_, rfl, by kernel_rfl⟩)
        refine softs_nil ?_
        (with_reducible apply W_hard1 (i := 16)); (case hn => rfl); (case hr => decide +kernel)
        intro wz S
        (with_reducible apply hard_of); (case hi => rfl)
        simp only [List.cons_append, List.nil_append] at S
        go_wp2_with first | ((with_reducible apply wps_store (u := (.slice az nz cz)) S 1); (case hx | hy | hi | h1 => rfl); (case hn => exact Nat.le_of_ble_eq_true rfl); (case hT => decide +kernel); clear S; intro wz S; simp only [List.set_cons_succ, List.set_cons_zero, List.setIfInBounds_toArray] at S) | ((with_reducible refine tot_done ?ht ?_); (case ht => kernel_rfl))
        refine ⟨_, S, ?_⟩
        clear S
        (with_reducible apply W_done); (case hn => rfl); (case hr => decide +kernel)
        intro wz S
        repeat (first | simp only at S | simp only [pick] at S | simp only [nth] at S | simp only [List.set_cons_succ] at S | simp only [List.set_cons_zero] at S | simp only [List.setIfInBounds_toArray] at S | simp only [setAll] at S | simp only [List.cons_append] at S | simp only [List.nil_append] at S | simp only [List.append_nil] at S)
      rotate_left 1
      focus
        intro wz S
        (with_reducible apply hard_of); (case hi => rfl)
        simp only [List.cons_append, List.nil_append] at S
        go_wp2_with first | ((with_reducible refine tot_done ?ht ?_); (case ht => kernel_rfl)) | ((with_reducible apply wps_load S 1); (case hx | hi | hu => rfl); (case hT => decide +kernel))
        refine ⟨_, S, ?_⟩
        clear S
        (refine W_mid (f := 6) (soft := [11]) rfl ?hB ?_); (case hB => decide +kernel)
        iterate 1
          (with_reducible apply softs_cons)
          (case hw =>
            (with_reducible apply soft_of); (case hi => rfl)
            intro T wz S
            simp only [List.cons_append, List.nil_append] at S
            go_wp2_with first | (go_at_call 26; refine Calls.mono (first_at _ _ _ _ _ _ j p (S.get (i := 0) rfl).choose_spec Hp.out) ?_; rintro e wz ⟨rfl, hE⟩; replace S := S.ext (Keep.of_below hE); clear hE) | ((with_reducible refine tot_done ?ht ?_); (case ht => kernel_rfl))
            exact ⟨rfl, S⟩)
          (case hs => exact ⟨_, rfl, by kernel_rfl⟩)
        refine softs_nil ?_
        (with_reducible apply W_hard2 (i := 4) (i' := 12)); (case hn => rfl); (case hr => decide +kernel)
        focus
          intro wz S
          (with_reducible apply hard_of); (case hi => rfl)
          simp only [List.cons_append, List.nil_append] at S
          go_wp2_with first | ((with_reducible refine tot_done ?ht ?_); (case ht => kernel_rfl)) | ((with_reducible apply wps_load S 1); (case hx | hi | hu => rfl); (case hT => decide +kernel))
          refine ⟨_, S, ?_⟩
          clear S
          (with_reducible apply W_hard1 (i := 12)); (case hn => rfl); (case hr => decide +kernel)
          intro wz S
          (with_reducible apply hard_of); (case hi => rfl)
          simp only [List.cons_append, List.nil_append] at S
          go_wp2_with first | ((with_reducible apply wps_build1a (T := 42) (E := 52) S); (case hx => rfl); (case hr => intro w; kernel_rfl); clear S; intro bz wz S) | ((with_reducible refine tot_done ?ht ?_); (case ht => kernel_rfl))
          refine ⟨_, S.pick [1, 2, 3, 0] rfl, ?_⟩
          clear S
          (with_reducible apply W_hard1 (i := 13)); (case hn => rfl); (case hr => decide +kernel)
          intro wz S
          (with_reducible apply hard_of); (case hi => rfl)
          simp only [List.cons_append, List.nil_append] at S
          go_wp2_with first | ((with_reducible apply wps_append1 elem_Sst sacells saone (by decide) S 2 (j := 3) (e := p.first)); (case hx | hy | hi | hj | he => rfl); (case hl => omega); clear S; intro az nz cz wz hnz S; simp only [List.set_cons_succ] at S) | ((with_reducible refine tot_done ?ht ?_); (case ht => kernel_rfl))
          refine ⟨_, S, ?_⟩
          clear S
          (refine W_mid (f := 1) (soft := [14, 15]) rfl ?hB ?_); (case hB => decide +kernel)
          iterate 2
            (with_reducible apply softs_cons)
            (case hw =>
              (with_reducible apply soft_of); (case hi => rfl)
              intro T wz S
              simp only [List.cons_append, List.nil_append] at S
              go_wp2_with first | ((with_reducible refine tot_done ?ht ?_); (case ht => kernel_rfl))
              exact ⟨rfl, S⟩)
            (case hs => exact ⟨_, rfl, by kernel_rfl⟩)
          refine softs_nil ?_
          (with_reducible apply W_hard1 (i := 16)); (case hn => rfl); (case hr => decide +kernel)
          intro wz S
          (with_reducible apply hard_of); (case hi => rfl)
          simp only [List.cons_append, List.nil_append] at S
          go_wp2_with first | ((with_reducible apply wps_store (u := (.slice az nz cz)) S 1); (case hx | hy | hi | h1 => rfl); (case hn => exact Nat.le_of_ble_eq_true rfl); (case hT => decide +kernel); clear S; intro wz S; simp only [List.set_cons_succ, List.set_cons_zero, List.setIfInBounds_toArray] at S) | ((with_reducible refine tot_done ?ht ?_); (case ht => kernel_rfl))
          refine ⟨_, S, ?_⟩
          clear S
          (with_reducible apply W_done); (case hn => rfl); (case hr => decide +kernel)
          intro wz S
          repeat (first | simp only at S | simp only [pick] at S | simp only [nth] at S | simp only [List.set_cons_succ] at S | simp only [List.set_cons_zero] at S | simp only [List.setIfInBounds_toArray] at S | simp only [setAll] at S | simp only [List.cons_append] at S | simp only [List.nil_append] at S | simp only [List.append_nil] at S)
        rotate_left 1
        focus
          intro wz S
          (with_reducible apply hard_of); (case hi => rfl)
          simp only [List.cons_append, List.nil_append] at S
          go_wp2_with first | ((with_reducible apply wps_build1a (T := 42) (E := 52) S); (case hx => rfl); (case hr => intro w; kernel_rfl); clear S; intro bz wz S) | ((with_reducible refine tot_done ?ht ?_); (case ht => kernel_rfl))
          refine ⟨_, S.pick [1, 2, 3, 0] rfl, ?_⟩
          clear S
          (with_reducible apply W_hard1 (i := 4)); (case hn => rfl); (case hr => decide +kernel)
          intro wz S
          (with_reducible apply hard_of); (case hi => rfl)
          simp only [List.cons_append, List.nil_append] at S
          go_wp2_with first | ((with_reducible refine tot_done ?ht ?_); (case ht => kernel_rfl)) | ((with_reducible apply wps_load S 1); (case hx | hi | hu => rfl); (case hT => decide +kernel))
          refine ⟨_, S, ?_⟩
          clear S
          (with_reducible apply W_hard1 (i := 13)); (case hn => rfl); (case hr => decide +kernel)
          intro wz S
          (with_reducible apply hard_of); (case hi => rfl)
          simp only [List.cons_append, List.nil_append] at S
          go_wp2_with first | ((with_reducible apply wps_append1 elem_Sst sacells saone (by decide) S 2 (j := 3) (e := p.first)); (case hx | hy | hi | hj | he => rfl); (case hl => omega); clear S; intro az nz cz wz hnz S; simp only [List.set_cons_succ] at S) | ((with_reducible refine tot_done ?ht ?_); (case ht => kernel_rfl))
          refine ⟨_, S, ?_⟩
          clear S
          (refine W_mid (f := 1) (soft := [14, 15]) rfl ?hB ?_); (case hB => decide +kernel)
          iterate 2
            (with_reducible apply softs_cons)
            (case hw =>
              (with_reducible apply soft_of); (case hi => rfl)
              intro T wz S
              simp only [List.cons_append, List.nil_append] at S
              go_wp2_with first | ((with_reducible refine tot_done ?ht ?_); (case ht => kernel_rfl))
              exact ⟨rfl, S⟩)
            (case hs => exact ⟨_, rfl, by kernel_rfl⟩)
          refine softs_nil ?_
          (with_reducible apply W_hard1 (i := 16)); (case hn => rfl); (case hr => decide +kernel)
          intro wz S
          (with_reducible apply hard_of); (case hi => rfl)
          simp only [List.cons_append, List.nil_append] at S
          go_wp2_with first | ((with_reducible apply wps_store (u := (.slice az nz cz)) S 1); (case hx | hy | hi | h1 => rfl); (case hn => exact Nat.le_of_ble_eq_true rfl); (case hT => decide +kernel); clear S; intro wz S; simp only [List.set_cons_succ, List.set_cons_zero, List.setIfInBounds_toArray] at S) | ((with_reducible refine tot_done ?ht ?_); (case ht => kernel_rfl))
          refine ⟨_, S, ?_⟩
          clear S
          (with_reducible apply W_done); (case hn => rfl); (case hr => decide +kernel)
          intro wz S
          repeat (first | simp only at S | simp only [pick] at S | simp only [nth] at S | simp only [List.set_cons_succ] at S | simp only [List.set_cons_zero] at S | simp only [List.setIfInBounds_toArray] at S | simp only [setAll] at S | simp only [List.cons_append] at S | simp only [List.nil_append] at S | simp only [List.append_nil] at S)
      all_goals
        go_wp2_with first | ((with_reducible apply wps_load S 3); (case hx | hi | hu => rfl); (case hT => decide +kernel))
        go_roundw
        case rel =>
          refine ⟨j + 1, .slice az nz cz, by omega, by go_num, ?_⟩
          rw [HTS.out]
          exact S.pick [0, 1, 2] rfl
        case measure => simp [intOf]; omega
    · obtain rfl : j = c.lps.length := by omega
      rw [List.take_length] at S
      have S2 := (((S.nil 54 BatV.cells 8).slsNil Event.cells 7).slsNil Event.cells 7).pick [0, 1, 2, 5, 4] rfl
      simp only [pick, nth] at S2
      have S3 := log_close (g := newL c) (l := []) rfl S2
      clear S2
      go_wp2_with first | ((with_reducible apply wps_load S 3); (case hx | hi | hu => rfl); (case hT => decide +kernel))
      (try simp only [Exit.inBlock, Exit.then]); refine bodyPost_ret (results2 rfl (res_tmp rfl) (res_tmp rfl)) rfl ?_
      exact ⟨bx, rfl, S3⟩
set_option maxRecDepth 100000 in
theorem ltime_calls (X R : Nat) (g : LogE) (w : World) (F : Nat → Prop) (h : (logA X R g).at_ w F) : Calls Tryz.prog 9 #[.pointer (some ⟨X, 0, none⟩)] w fun e w' => e = .returned (.int .i64 g.time) ∧ Below w.heap.size w w' := by
  obtain ⟨v1, v2, l, hl, S⟩ := logR_st h
  clear h hl
  go_enter Tryz.func9, Tryz.ntmps9
  go_wp2_with first | ((with_reducible apply wps_load S 4); (case hx | hi | hu => rfl); (case hT => decide +kernel))
  go_ret
  exact ⟨rfl, S.below⟩
set_option maxRecDepth 100000 in
theorem llen_calls (X R : Nat) (g : LogE) (w : World) (F : Nat → Prop) (h : (logA X R g).at_ w F) : Calls Tryz.prog 14 #[.pointer (some ⟨X, 0, none⟩)] w fun e w' => e = .returned (.int .i64 (g.done.length : Int)) ∧ Below w.heap.size w w' := by
  obtain ⟨v1, v2, l, hl, S⟩ := logR_st h
  have hd : g.done.length = l.length := by rw [← hl, List.length_map]
  rw [hd]
  obtain ⟨a2, c2, rfl, _⟩ := (S.sl 2 rfl).elim fun _ h => h.form
  clear h hl hd
  go_enter Tryz.func14, Tryz.ntmps14
  go_wp2_with first | ((with_reducible apply wps_load S 4); (case hx | hi | hu => rfl); (case hT => decide +kernel))
  go_ret
  exact ⟨rfl, S.below⟩
set_option maxRecDepth 100000 in
theorem lstates_calls (X R : Nat) (g : LogE) (w : World) (F : Nat → Prop) (h : (logA X R g).at_ w F) (hn : g.ss.length ≤ 65536) :
    Calls Tryz.prog 8 #[.pointer (some ⟨X, 0, none⟩)] w fun e w' => ∃ ad c, e = .returned (.slice ad g.ss.length c) ∧ St (fun _ => False) w w' [Own 52 State.cells 4 (.slice ad g.ss.length c) g.ss] := by
  obtain ⟨v1, v2, l, hl, S⟩ := logR_st h
  clear h hl
  obtain ⟨a1, c1, rfl, _⟩ := (S.sl 3 rfl).elim fun _ h => h.form
  have hn2 : g.ss.length ≤ 4294967296 := by omega
  go_enter Tryz.func8, Tryz.ntmps8
  go_wp2_with first | (go_at_call 27; refine Calls.mono (clone_Sst _ _ (S.get (i := 3) rfl).choose_spec hn2) ?_; rintro e wz ⟨ad2, c2, rfl, _, T⟩; replace S := S.join T rfl; clear T; simp only [List.cons_append, List.nil_append] at S) | ((with_reducible apply wps_load S 4); (case hx | hi | hu => rfl); (case hT => decide +kernel))
  go_ret
  exact ⟨_, _, rfl, S.pick [0] rfl⟩
end Go.Proofs.YtemgonomenjjaaaGreatDoor

import Derived.Test.YtegcghofkbdgiaaDoorR17
import Derived.Test.YtegcghofkbdgiaaDoorR15
import Derived.Test.YtegcghofkbdgiaaDoorR06
import Derived.Test.YtegcghofkbdgiaaDoorR04
import Derived.Test.YtegcghofkbdgiaaDoorR08
import Derived.Test.YtegcghofkbdgiaaDoorR03
import Derived.Shelf.SlSortCmp.WholeK
import Derived.Shelf.SlSortCmp.Whole1
/- Plain: what is sent in a batch; and a configuration that is shared. -/
namespace Go.Proofs.YtegcghofkbdgiaaDoor
open Go Go.RowKit Mem

section
variable {G : Nat → Prop} {w0 w : World} {L : List Asn} {vs hs : List Value} {c : Cfg}
end
/-- What is known of each message's event. -/
structure SentOk (n : Nat) (fin lp at_ : Int) (out : List Event) : Prop where
  each : ∀ (i : Nat) (x : Event), out[i]? = some x → x.key.src = lp ∧ x.key.sent = at_ ∧ x.key.no = i ∧ at_ < x.key.at_ ∧ x.key.at_ ≤ fin ∧ 0 ≤ x.dst ∧ x.dst < n
theorem batch_len (c : Cfg) (lp : Int) (s : State) (l : List Event) (h : 0 ≤ c.fan) : ((batchC c lp s l).2.length : Int) ≤ c.fan * l.length := by
  have := ones_len (p := progOf c lp) (n := c.lps.length) (fin := c.fin) (fuel := c.fuel) (lp := lp) (at_ := atE l) h (sortE l) (s, [])
  rw [sortE_len] at this
  have e : (s, ([] : List Event)).2.length = 0 := rfl
  rw [e] at this
  unfold batchC batchE
  omega
end Go.Proofs.YtegcghofkbdgiaaDoor
/- Plain: a batch that was done. -/
namespace Go.Proofs.YtegcghofkbdgiaaDoor
open Go Go.RowKit Mem

/-- What a process did at one time. -/
structure BatE where
  at_ : Int
  lp : Int
  ins : List Event
  thn : State
  sent : List Event
theorem twh_mem {α : Type} (p : α → Bool) : ∀ (l : List α), ∀ x ∈ l.takeWhile p, p x = true ∧ x ∈ l
  | [], x, h => by simp at h
  | a :: l, x, h => by
    by_cases e : p a = true
    · rw [List.takeWhile_cons, if_pos e] at h
      rcases List.mem_cons.1 h with rfl | h
      · exact ⟨e, by simp⟩
      · exact ⟨(twh_mem p l x h).1, List.mem_cons_of_mem _ (twh_mem p l x h).2⟩
    · rw [List.takeWhile_cons, if_neg e] at h; simp at h
end Go.Proofs.YtegcghofkbdgiaaDoor
/- Plain: a log of what is done for good; what is wrong with events that are to be committed; the batches of a commit. No program in sight. -/
namespace Go.Proofs.YtegcghofkbdgiaaDoor
open Go Go.RowKit Mem

/-- Two events have one key, and go to one process. -/
def dupB (l : List Event) : Bool := !decide ((l.map fun x => (x.key, x.dst)).Nodup)
/-- What is wrong with events that are to be committed. -/
def wrongL (n : Nat) (time below : Int) (l : List Event) : Int :=
  if below < time ∨ 1073741825 < below then 18 else if ¬ (∀ x ∈ l, time ≤ x.key.at_ ∧ x.key.at_ < below) then 18
  else if ¬ (∀ x ∈ l, 0 ≤ x.dst ∧ x.dst < n) then 10 else if dupB l = true then 13 else 0
theorem dup_perm {l m : List Event} (h : l.Perm m) : dupB l = dupB m := by
  unfold dupB; congr 1; rw [Bool.eq_iff_iff]; simpa using (h.map _).nodup_iff
theorem dup_sub {l m : List Event} (h : m.Sublist l) (hd : dupB l = false) : dupB m = false := by
  unfold dupB at *
  rw [Bool.not_eq_false', decide_eq_true_eq] at *
  exact hd.sublist (h.map _)
theorem wrongL_perm {n : Nat} {time below : Int} {l m : List Event} (h : l.Perm m) : wrongL n time below l = wrongL n time below m := by
  unfold wrongL
  have h1 : (∀ x ∈ l, time ≤ x.key.at_ ∧ x.key.at_ < below) ↔ (∀ x ∈ m, time ≤ x.key.at_ ∧ x.key.at_ < below) := ⟨fun g x hx => g x (h.mem_iff.2 hx), fun g x hx => g x (h.mem_iff.1 hx)⟩
  have h2 : (∀ x ∈ l, 0 ≤ x.dst ∧ x.dst < n) ↔ (∀ x ∈ m, 0 ≤ x.dst ∧ x.dst < n) := ⟨fun g x hx => g x (h.mem_iff.2 hx), fun g x hx => g x (h.mem_iff.1 hx)⟩
  simp only [h1, h2, dup_perm h]
structure Fine (n : Nat) (time below : Int) (l : List Event) : Prop where
  ord : time ≤ below
  top : below ≤ 1073741825
  times : ∀ x ∈ l, time ≤ x.key.at_ ∧ x.key.at_ < below
  dsts : ∀ x ∈ l, 0 ≤ x.dst ∧ x.dst < n
  once : dupB l = false
theorem wrongL_fine {n : Nat} {time below : Int} {l : List Event} : wrongL n time below l = 0 ↔ Fine n time below l := by
  constructor
  · intro h
    unfold wrongL at h
    have h1 : ¬ (below < time ∨ 1073741825 < below) := fun g => by rw [if_pos g] at h; cases h
    rw [if_neg h1] at h
    have h2 : ∀ x ∈ l, time ≤ x.key.at_ ∧ x.key.at_ < below := Classical.byContradiction fun g => by rw [if_pos g] at h; cases h
    rw [if_neg (fun g => g h2)] at h
    have h3 : ∀ x ∈ l, 0 ≤ x.dst ∧ x.dst < n := Classical.byContradiction fun g => by rw [if_pos g] at h; cases h
    rw [if_neg (fun g => g h3)] at h
    have h4 : dupB l = false := by
      cases hd : dupB l with
      | false => rfl
      | true => rw [hd, if_pos rfl] at h; cases h
    exact ⟨by omega, by omega, h2, h3, h4⟩
  · intro ⟨h1, h2, h3, h4, h5⟩
    unfold wrongL
    rw [if_neg (by omega), if_neg (fun g => g h3), if_neg (fun g => g h4), if_neg (by rw [h5]; simp)]
theorem dup_yes {l : List Event} {i j : Nat} {x y : Event} (hx : l[i]? = some x) (hy : l[j]? = some y) (hij : i ≠ j) (hk : x.key = y.key) (hd : x.dst = y.dst) : dupB l = true := by
  unfold dupB
  rw [Bool.not_eq_true', decide_eq_false_iff_not]
  intro hn
  have e1 : (l.map fun x => (x.key, x.dst))[i]? = some (x.key, x.dst) := by simp [hx]
  have e2 : (l.map fun x => (x.key, x.dst))[j]? = some (x.key, x.dst) := by simp [hy, hk, hd]
  obtain ⟨a1, a2⟩ := List.getElem?_eq_some_iff.1 e1
  obtain ⟨b1, b2⟩ := List.getElem?_eq_some_iff.1 e2
  exact hij ((List.getElem_inj hn).1 (a2.trans b2.symm))
theorem key_ext {k l : Key} (h1 : k.at_ = l.at_) (h2 : k.src = l.src) (h3 : k.sent = l.sent) (h4 : k.no = l.no) : k = l := by
  obtain ⟨a, b, c, d⟩ := k; obtain ⟨a', b', c', d'⟩ := l; simp only at h1 h2 h3 h4; subst h1; subst h2; subst h3; subst h4; rfl
theorem up_mid {x y z : Event} (h1 : ¬ evLt y x) (h2 : ¬ evLt z y) (hk : x.key = z.key) (hd : x.dst = z.dst) : x.key = y.key ∧ x.dst = y.dst := by
  have e1 : x.key.at_ = z.key.at_ := by rw [hk]
  have e2 : x.key.src = z.key.src := by rw [hk]
  have e3 : x.key.sent = z.key.sent := by rw [hk]
  have e4 : x.key.no = z.key.no := by rw [hk]
  unfold evLt at h1 h2
  have g1 : x.key.at_ = y.key.at_ := by omega
  have g2 : x.key.src = y.key.src := by omega
  have g3 : x.key.sent = y.key.sent := by omega
  have g4 : x.key.no = y.key.no := by omega
  exact ⟨key_ext g1 g2 g3 g4, by omega⟩
theorem nodup_adj : ∀ {s : List Event}, UpT s → (∀ (q : Nat) x y, s[q]? = some x → s[q + 1]? = some y → ¬ (x.key = y.key ∧ x.dst = y.dst)) → (s.map fun x => (x.key, x.dst)).Nodup
  | [], _, _ => List.nodup_nil
  | [x], _, _ => by simp
  | x :: y :: s, hp, hq => by
    have ih := nodup_adj (s := y :: s) (List.pairwise_cons.1 hp).2 (fun q a b ha hb => hq (q + 1) a b (by simpa using ha) (by simpa using hb))
    rw [List.map_cons, List.nodup_cons]
    refine ⟨fun hm => ?_, ih⟩
    obtain ⟨z, hz, e⟩ := List.mem_map.1 hm
    simp only [Prod.mk.injEq] at e
    have h1 := (List.pairwise_cons.1 hp).1 y (by simp)
    have h2 : ¬ evLt z y := by
      rcases List.mem_cons.1 hz with rfl | hz
      · exact evLt_irrefl _
      · exact (List.pairwise_cons.1 (List.pairwise_cons.1 hp).2).1 z hz
    exact hq 0 x y rfl rfl (up_mid h1 h2 e.1.symm e.2.symm)
theorem dup_no {l : List Event} (hu : UpT l) (h : ∀ (q : Nat) x y, l[q]? = some x → l[q + 1]? = some y → ¬ (x.key = y.key ∧ x.dst = y.dst)) : dupB l = false := by
  unfold dupB
  rw [Bool.not_eq_false', decide_eq_true_eq]
  exact nodup_adj hu h
/-- The events of a time, that go to a process. -/
def toldL (l : List Event) (lp : Int) : List Event := l.filter fun x => decide (x.dst = lp)
def stAt (ss : List State) (lp : Int) : State := (ss[lp.toNat]?).getD ⟨0, 0, 0, 0⟩
def lpL (c : Cfg) (at_ : Int) (l : List Event) (p : List State × List BatE) (lp : Nat) : List State × List BatE :=
  if (toldL l lp).length = 0 then p else
    (p.1.set lp (batchC c lp (stAt p.1 lp) (toldL l lp)).1, p.2 ++ [⟨at_, lp, toldL l lp, (batchC c lp (stAt p.1 lp) (toldL l lp)).1, (batchC c lp (stAt p.1 lp) (toldL l lp)).2⟩])
/-- The batches of one time. -/
def runL (c : Cfg) (at_ : Int) (l : List Event) (ss : List State) : List State × List BatE := (List.range c.lps.length).foldl (lpL c at_ l) (ss, [])
def sameT (a : Int) (x : Event) : Bool := decide (x.key.at_ = a)
/-- Events in order, parted by their times. -/
def groups : Nat → List Event → List (Int × List Event)
  | 0, _ => []
  | _ + 1, [] => []
  | k + 1, x :: l => (x.key.at_, x :: l.takeWhile (sameT x.key.at_)) :: groups k (l.dropWhile (sameT x.key.at_))
def runs (c : Cfg) : List (Int × List Event) → List State → List State × List BatE
  | [], ss => (ss, [])
  | g :: gs, ss => ((runs c gs (runL c g.1 g.2 ss).1).1, (runL c g.1 g.2 ss).2 ++ (runs c gs (runL c g.1 g.2 ss).1).2)
def timesL (c : Cfg) (l : List Event) (ss : List State) : List State × List BatE := runs c (groups l.length l) ss
structure LogE where
  ss : List State
  time : Int
  done : List BatE
def newL (c : Cfg) : LogE := ⟨c.lps.map (·.first), 0, []⟩
def comL (c : Cfg) (g : LogE) (below : Int) (l : List Event) : LogE := ⟨(timesL c (sortT l) g.ss).1, below, g.done ++ (timesL c (sortT l) g.ss).2⟩
theorem drop_len (p : Event → Bool) (l : List Event) : (l.dropWhile p).length ≤ l.length := (List.dropWhile_sublist p).length_le
theorem groups_fuel : ∀ (k k' : Nat) (l : List Event), l.length ≤ k → l.length ≤ k' → groups k l = groups k' l
  | 0, 0, _, _, _ => rfl
  | 0, k' + 1, l, h, _ => by obtain rfl := List.eq_nil_of_length_eq_zero (Nat.le_zero.1 h); rfl
  | k + 1, 0, l, _, h => by obtain rfl := List.eq_nil_of_length_eq_zero (Nat.le_zero.1 h); rfl
  | k + 1, k' + 1, [], _, _ => rfl
  | k + 1, k' + 1, x :: l, h, h' => by
    have := drop_len (sameT x.key.at_) l
    simp only [List.length_cons] at h h'
    simp only [groups]
    rw [groups_fuel k k' _ (by omega) (by omega)]
theorem timesL_nil (c : Cfg) (ss : List State) : timesL c [] ss = (ss, []) := rfl
theorem timesL_cons (c : Cfg) (x : Event) (l : List Event) (ss : List State) :
    timesL c (x :: l) ss = ((timesL c (l.dropWhile (sameT x.key.at_)) (runL c x.key.at_ (x :: l.takeWhile (sameT x.key.at_)) ss).1).1,
      (runL c x.key.at_ (x :: l.takeWhile (sameT x.key.at_)) ss).2 ++ (timesL c (l.dropWhile (sameT x.key.at_)) (runL c x.key.at_ (x :: l.takeWhile (sameT x.key.at_)) ss).1).2) := by
  unfold timesL
  simp only [List.length_cons, groups, runs]
  rw [groups_fuel l.length (l.dropWhile (sameT x.key.at_)).length _ (drop_len _ _) (Nat.le_refl _)]
/-- A state is turned by a batch. -/
def setst (ss : List State) (b : BatE) : List State := ss.set b.lp.toNat b.thn
/-- Batches, one behind the other, from states on. -/
structure BRuns (c : Cfg) (ss : List State) (bs : List BatE) (ss' : List State) : Prop where
  fin : bs.foldl setst ss = ss'
  each : ∀ (k : Nat) (b : BatE), bs[k]? = some b → 0 ≤ b.lp ∧ b.lp < c.lps.length ∧ 0 < b.ins.length ∧ (∀ x ∈ b.ins, x.dst = b.lp ∧ x.key.at_ = b.at_) ∧ UpT b.ins ∧
    batchC c b.lp (stAt ((bs.take k).foldl setst ss) b.lp) b.ins = (b.thn, b.sent)
theorem BRuns.nil (c : Cfg) (ss : List State) : BRuns c ss [] ss := ⟨rfl, fun k b h => by simp at h⟩
theorem BRuns.append {c : Cfg} {ss ss1 ss2 : List State} {bs bs' : List BatE} (h : BRuns c ss bs ss1) (h' : BRuns c ss1 bs' ss2) : BRuns c ss (bs ++ bs') ss2 := by
  refine ⟨by rw [List.foldl_append, h.fin, h'.fin], fun k b hk => ?_⟩
  by_cases hl : k < bs.length
  · rw [List.getElem?_append_left hl] at hk
    rw [List.take_append_of_le_length (by omega)]
    exact h.each k b hk
  · rw [List.getElem?_append_right (by omega)] at hk
    have := h'.each _ b hk
    rw [List.take_append, List.take_of_length_le (by omega), List.foldl_append, h.fin]
    exact this
theorem told_mem {l : List Event} {lp : Int} {x : Event} : x ∈ toldL l lp ↔ x ∈ l ∧ x.dst = lp := by unfold toldL; rw [List.mem_filter, decide_eq_true_eq]
theorem told_sub (l : List Event) (lp : Int) : (toldL l lp).Sublist l := List.filter_sublist
/-- What was done of one time up to a process. -/
def lpsL (c : Cfg) (at_ : Int) (l : List Event) (ss : List State) (j : Nat) : List State × List BatE := (List.range j).foldl (lpL c at_ l) (ss, [])
theorem lps_succ (c : Cfg) (at_ : Int) (l : List Event) (ss : List State) (j : Nat) : lpsL c at_ l ss (j + 1) = lpL c at_ l (lpsL c at_ l ss j) j := by
  unfold lpsL; rw [List.range_succ, List.foldl_append]; rfl
theorem lps_runs (c : Cfg) (at_ : Int) (l : List Event) (ss : List State) (hl : ∀ x ∈ l, x.key.at_ = at_) (hu : UpT l) : ∀ j, j ≤ c.lps.length →
    BRuns c ss (lpsL c at_ l ss j).2 (lpsL c at_ l ss j).1 ∧ (∀ b ∈ (lpsL c at_ l ss j).2, b.at_ = at_ ∧ b.lp < j) ∧ (lpsL c at_ l ss j).2.Pairwise (fun a b => a.lp < b.lp) ∧
    ((lpsL c at_ l ss j).2.flatMap (·.ins)).Perm (l.filter fun x : Event => decide (0 ≤ x.dst ∧ x.dst < (j : Int)))
  | 0, _ => ⟨BRuns.nil _ _, by simp [lpsL], by simp [lpsL], by
    have : (l.filter fun x : Event => decide (0 ≤ x.dst ∧ x.dst < ((0 : Nat) : Int))) = [] := by
      rw [List.filter_eq_nil_iff]; intro x _; simp
    rw [this]; exact .refl _⟩
  | j + 1, hj => by
    obtain ⟨h1, h2, h3, h4⟩ := lps_runs c at_ l ss hl hu j (by omega)
    rw [lps_succ]
    have hsplit : (l.filter fun x : Event => decide (0 ≤ x.dst ∧ x.dst < ((j + 1 : Nat) : Int))).Perm ((l.filter fun x : Event => decide (0 ≤ x.dst ∧ x.dst < (j : Int))) ++ toldL l j) := by
      unfold toldL
      clear h1 h2 h3 h4 hl hu
      induction l with
      | nil => exact .refl _
      | cons x l ih =>
        by_cases e1 : x.dst = j
        · rw [List.filter_cons_of_pos (by simp; omega), List.filter_cons_of_neg (by simp; omega), List.filter_cons_of_pos (by simp [e1])]
          exact (ih.cons x).trans List.perm_middle.symm
        · by_cases e2 : 0 ≤ x.dst ∧ x.dst < (j : Int)
          · rw [List.filter_cons_of_pos (by simp; omega), List.filter_cons_of_pos (by simp; omega), List.filter_cons_of_neg (by simp [e1])]
            exact ih.cons x
          · rw [List.filter_cons_of_neg (by simp; omega), List.filter_cons_of_neg (by simp; omega), List.filter_cons_of_neg (by simp [e1])]
            exact ih
    unfold lpL
    split
    · rename_i h0
      have h0 := List.eq_nil_of_length_eq_zero h0
      rw [h0, List.append_nil] at hsplit
      exact ⟨h1, fun b hb => ⟨(h2 b hb).1, by have := (h2 b hb).2; omega⟩, h3, h4.trans hsplit.symm⟩
    · rename_i h0
      refine ⟨h1.append ⟨by simp [setst], fun k b hk => ?_⟩, fun b hb => ?_, ?_, ?_⟩
      · cases k with
        | zero =>
          simp only [List.getElem?_cons_zero, Option.some.injEq] at hk
          subst hk
          exact ⟨by simp only; omega, by simp only; omega, by simp only; omega, fun x hx => ⟨(told_mem.1 hx).2, hl x (told_mem.1 hx).1⟩, hu.sublist (told_sub _ _), rfl⟩
        | succ k => simp at hk
      · rcases List.mem_append.1 hb with hb | hb
        · exact ⟨(h2 b hb).1, by have := (h2 b hb).2; omega⟩
        · rw [List.mem_singleton] at hb; subst hb; exact ⟨rfl, by simp only; omega⟩
      · refine List.pairwise_append.2 ⟨h3, by simp, fun a ha b hb => ?_⟩
        rw [List.mem_singleton] at hb; subst hb
        exact (h2 a ha).2
      · rw [List.flatMap_append]
        refine List.Perm.trans ?_ hsplit.symm
        simpa using h4.append_right _
theorem run_runs (c : Cfg) (at_ : Int) (l : List Event) (ss : List State) (hl : ∀ x ∈ l, x.key.at_ = at_) (hu : UpT l) (hd : ∀ x ∈ l, 0 ≤ x.dst ∧ x.dst < c.lps.length) :
    BRuns c ss (runL c at_ l ss).2 (runL c at_ l ss).1 ∧ (∀ b ∈ (runL c at_ l ss).2, b.at_ = at_) ∧ (runL c at_ l ss).2.Pairwise (fun a b => a.lp < b.lp) ∧ ((runL c at_ l ss).2.flatMap (·.ins)).Perm l := by
  obtain ⟨h1, h2, h3, h4⟩ := lps_runs c at_ l ss hl hu c.lps.length (Nat.le_refl _)
  refine ⟨h1, fun b hb => (h2 b hb).1, h3, ?_⟩
  rw [List.filter_eq_self.2 (fun x hx => by simp; exact hd x hx)] at h4
  exact h4
def BefE (a b : BatE) : Prop := a.at_ < b.at_ ∨ (a.at_ = b.at_ ∧ a.lp < b.lp)
theorem up_at {x y : Event} (h : ¬ evLt y x) : x.key.at_ ≤ y.key.at_ := by unfold evLt at h; omega
theorem times_runs (c : Cfg) : ∀ (n : Nat) (l : List Event) (ss : List State), l.length ≤ n → UpT l → (∀ x ∈ l, 0 ≤ x.dst ∧ x.dst < c.lps.length) →
    BRuns c ss (timesL c l ss).2 (timesL c l ss).1 ∧ (∀ b ∈ (timesL c l ss).2, ∃ x ∈ l, b.at_ = x.key.at_) ∧ (timesL c l ss).2.Pairwise BefE ∧ ((timesL c l ss).2.flatMap (·.ins)).Perm l
  | n, [], ss, _, _, _ => ⟨BRuns.nil _ _, by simp [timesL_nil], by simp [timesL_nil], .refl _⟩
  | 0, x :: l, _, h, _, _ => by simp at h
  | n + 1, x :: l, ss, hn, hu, hd => by
    have hu' := List.pairwise_cons.1 hu
    rw [timesL_cons]
    generalize hq : runL c x.key.at_ (x :: l.takeWhile (sameT x.key.at_)) ss = q
    have hsub : (x :: l.takeWhile (sameT x.key.at_)).Sublist (x :: l) := (List.takeWhile_sublist _).cons_cons _
    obtain ⟨h1, h2, h3, h4⟩ := run_runs c x.key.at_ (x :: l.takeWhile (sameT x.key.at_)) ss (fun y hy => by
      rcases List.mem_cons.1 hy with rfl | hy
      · rfl
      · have := (twh_mem _ l y hy).1; simpa [sameT] using this) (hu.sublist hsub) (fun y hy => hd y (hsub.subset hy))
    rw [hq] at h1 h2 h3 h4
    have hds : (l.dropWhile (sameT x.key.at_)).Sublist l := List.dropWhile_sublist _
    have hdl := drop_len (sameT x.key.at_) l
    simp only [List.length_cons] at hn
    obtain ⟨g1, g2, g3, g4⟩ := times_runs c n (l.dropWhile (sameT x.key.at_)) q.1 (by omega) (hu'.2.sublist hds) (fun y hy => hd y (List.mem_cons_of_mem _ (hds.subset hy)))
    have hlate : ∀ y ∈ l.dropWhile (sameT x.key.at_), x.key.at_ < y.key.at_ := by
      have key : ∀ m : List Event, UpT m → (∀ y ∈ m, x.key.at_ ≤ y.key.at_) → ∀ y ∈ m.dropWhile (sameT x.key.at_), x.key.at_ < y.key.at_ := by
        intro m
        induction m with
        | nil => intro _ _ y hy; simp at hy
        | cons z m ih =>
          intro hm hx y hy
          have hm' := List.pairwise_cons.1 hm
          rw [List.dropWhile_cons] at hy
          split at hy
          · exact ih hm'.2 (fun y hy => hx y (List.mem_cons_of_mem _ hy)) y hy
          · rename_i hz
            simp only [sameT, decide_eq_true_eq] at hz
            have h0 := hx z (by simp)
            rcases List.mem_cons.1 hy with rfl | hy
            · omega
            · have := up_at (hm'.1 y hy); omega
      exact key l hu'.2 (fun y hy => up_at (hu'.1 y hy))
    refine ⟨h1.append g1, fun b hb => ?_, ?_, ?_⟩
    · rcases List.mem_append.1 hb with hb | hb
      · exact ⟨x, by simp, h2 b hb⟩
      · obtain ⟨y, hy, e⟩ := g2 b hb
        exact ⟨y, List.mem_cons_of_mem _ (hds.subset hy), e⟩
    · refine List.pairwise_append.2 ⟨?_, g3, fun a ha b hb => ?_⟩
      · refine (List.Pairwise.and_mem.1 h3).imp fun {a b} h => .inr ⟨?_, h.2.2⟩
        rw [h2 a h.1, h2 b h.2.1]
      · obtain ⟨y, hy, e⟩ := g2 b hb
        have := hlate y hy
        have := h2 a ha
        exact .inl (by omega)
    · rw [List.flatMap_append]
      refine (h4.append g4).trans ?_
      rw [List.cons_append, List.takeWhile_append_dropWhile]
theorem flat_sub : ∀ {bs : List BatE} {b : BatE}, b ∈ bs → b.ins.Sublist (bs.flatMap (·.ins))
  | [], _, hb => by simp at hb
  | a :: bs, b, hb => by
    rw [List.flatMap_cons]
    rcases List.mem_cons.1 hb with rfl | hb
    · exact List.sublist_append_left _ _
    · exact (flat_sub hb).trans (List.sublist_append_right _ _)
theorem twice_of_dup {m : List Event} {lp : Int} (hnd : dupB m = false) (h4 : ∀ x ∈ m, x.dst = lp) : twiceB m = false := by
  unfold twiceB
  unfold dupB at hnd
  rw [Bool.not_eq_false', decide_eq_true_eq] at *
  induction m with
  | nil => exact List.nodup_nil
  | cons x m ih =>
    rw [List.map_cons, List.nodup_cons] at *
    refine ⟨fun hm => hnd.1 ?_, ih hnd.2 (fun y hy => h4 y (List.mem_cons_of_mem _ hy))⟩
    obtain ⟨y, hy, e⟩ := List.mem_map.1 hm
    exact List.mem_map.2 ⟨y, hy, by rw [e, h4 x (by simp), h4 y (List.mem_cons_of_mem _ hy)]⟩
/-- What a rule makes of events. -/
def ruleC (c : Cfg) (lp : Int) (s : State) (l : List Event) : State × List Event :=
  if wrongE c.lps.length lp (once (sortT l)) = 0 then batchC c lp s (once (sortT l)) else (s, [])
end Go.Proofs.YtegcghofkbdgiaaDoor
/- Things put in another order; several slices and several more. Over any program. -/
namespace Go.Proofs.YtegcghofkbdgiaaDoor.Mem
open Go Go.RowKit

theorem St.swap2 {G : Nat → Prop} {w0 w : World} {L : List Asn} {A B : Asn} (S : St G w0 w (A :: B :: L)) : St G w0 w (B :: A :: L) := by
  obtain ⟨Fs, hf, hd⟩ := S.ex
  have g : ∀ i : Nat, ∀ X : Asn, (B :: A :: L)[i]? = some X → (A :: B :: L)[(match i with | 0 => 1 | 1 => 0 | i + 2 => i + 2 : Nat)]? = some X := by
    intro i X h
    match i with
    | 0 => exact h
    | 1 => exact h
    | i + 2 => exact h
  refine ⟨S.keep, fun i => Fs (match i with | 0 => 1 | 1 => 0 | i + 2 => i + 2 : Nat), fun i X hi => hf _ X (g i X hi), fun i j X Y hij hi hj => ?_⟩
  have hi' := g i X hi
  have hj' := g j Y hj
  match i, j, hij with
  | 0, 1, _ =>
    rcases hd 0 1 Y X (by omega) hj' hi' with ⟨e1, e2⟩ | e
    · exact .inl ⟨e2, e1⟩
    · exact .inr fun x hx hx' => e x hx' hx
  | 0, j + 2, _ => exact hd 1 (j + 2) X Y (by omega) hi' hj'
  | 1, j + 2, _ => exact hd 0 (j + 2) X Y (by omega) hi' hj'
  | i + 2, j + 2, h => exact hd (i + 2) (j + 2) X Y (by omega) hi' hj'
  | 0, 0, h => omega
  | i + 1, 0, h => omega
  | i + 1, 1, h => omega
section
variable {G : Nat → Prop} {w0 w w' : World} {L : List Asn} {A A' B C : Asn} {i : Nat}
/-- Several slices, and several more. -/
theorem St.slsAppend {α : Type} {enc : α → List Value} {k : Nat} {vs vs' : List Value} {xss xss' : List (List α)} (S : St G w0 w (Sls false enc k vs xss :: Sls false enc k vs' xss' :: L)) : St G w0 w (Sls false enc k (vs ++ vs') (xss ++ xss') :: L) :=
  S.merge _ rfl rfl rfl fun F F' h h' => by
    refine ⟨⟨by simp [h'.1.1, h.1.1], fun j u ys hu hy => ?_⟩, fun b hb => hb.elim (h.2 b) (h'.2 b)⟩
    by_cases hj : j < vs.length
    · rw [List.getElem?_append_left hj] at hu
      rw [List.getElem?_append_left (by rw [← h.1.1]; exact hj)] at hy
      exact (h.1.2 j u ys hu hy).mono fun _ => .inl
    · rw [List.getElem?_append_right (by omega)] at hu
      rw [List.getElem?_append_right (by have := h.1.1; omega)] at hy
      rw [← h.1.1] at hy
      exact (h'.1.2 _ u ys hu hy).mono fun _ => .inr
end
end Go.Proofs.YtegcghofkbdgiaaDoor.Mem
/- A batch with where its slices lie. -/
namespace Go.Proofs.YtegcghofkbdgiaaDoor
open Go Go.RowKit Reg Mem

theorem own_hd {α : Type} {E : TypeId} {enc : α → List Value} {k : Nat} {v : Value} {xs : List α} {G : Nat → Prop} {w0 w : World} {L : List Asn} (i : Nat) (S : St G w0 w L) (hi : L[i]? = some (Own E enc k v xs)) (h0 : 0 < xs.length) : ∃ R c, v = .slice (some ⟨R, 0, none⟩) xs.length c := by
  obtain ⟨F1, h1, _⟩ := S.get hi
  obtain ⟨R, c, cur, e, _⟩ := h1.some (by omega)
  exact ⟨R, c, e⟩
theorem take_snoc {α : Type} {l : List α} {j : Nat} {x : α} (h : l[j]? = some x) : l.take (j + 1) = l.take j ++ [x] := by
  rw [List.take_add_one, h]; rfl
theorem sacells : ∀ e : State, e.cells.length = 4 := fun _ => rfl
theorem saone : ∀ e : State, ∀ u ∈ e.cells, u.oneCell' = true := fun _ => by simp [State.cells, Value.oneCell']
/-- A batch with where its slices lie. -/
structure BatV where
  b : BatE
  ai : Option Addr
  ci : Nat
  ao : Option Addr
  co : Nat
def BatV.vi (x : BatV) : Value := .slice x.ai x.b.ins.length x.ci
def BatV.vo (x : BatV) : Value := .slice x.ao x.b.sent.length x.co
def BatV.cells (x : BatV) : List Value := [.int .i64 x.b.at_, .int .i64 x.b.lp, .slice x.ai x.b.ins.length x.ci, .int .i64 x.b.thn.n0, .int .i64 x.b.thn.n1, .int .i64 x.b.thn.n2, .int .i64 x.b.thn.n3, .slice x.ao x.b.sent.length x.co]
theorem bvcells : ∀ x : BatV, x.cells.length = 8 := fun _ => rfl
theorem bvone : ∀ x : BatV, ∀ u ∈ x.cells, u.oneCell' = true := fun _ => by simp [BatV.cells, Value.oneCell']
set_option maxRecDepth 100000 in
theorem elem_Bat : Elem Tryd.prog 59 78 8 96 := ⟨_, .agg #[.int .i64 0, .int .i64 0, .slice none 0 0, .int .i64 0, .int .i64 0, .int .i64 0, .int .i64 0, .slice none 0 0], Tryd.underlying59, rfl, by kernel_rfl, by kernel_rfl, by kernel_rfl, by kernel_rfl, by omega⟩
end Go.Proofs.YtegcghofkbdgiaaDoor
/- Lists of states; slices.Clone of them. -/
namespace Go.Proofs.YtegcghofkbdgiaaDoor
open Go Go.RowKit Reg Mem

set_option maxRecDepth 100000 in
theorem elem_Sst : Elem Tryd.prog 65 28 4 32 := ⟨_, .agg #[.int .i64 0, .int .i64 0, .int .i64 0, .int .i64 0], Tryd.underlying65, rfl, by kernel_rfl, by kernel_rfl, by kernel_rfl, by kernel_rfl, by omega⟩
end Go.Proofs.YtegcghofkbdgiaaDoor
/- The walks of cmp.Compare and cmp.Or at ints (beside C2). -/
namespace Go.Proofs.YtegcghofkbdgiaaDoor
open Go Go.RowKit Reg Mem

theorem isNaN_calls (x : Int) (w : World) : Calls Tryd.prog 86 #[.int .i64 x] w fun r w' => r = .returned (.bool false) ∧ Below w.heap.size w w' := by
  have S := St.init (fun _ => False) w
  go_enter Tryd.func86, Tryd.ntmps86
  go_wp2_with first | ((with_reducible refine tot_done ?ht ?_); (case ht => kernel_rfl))
  go_ret
  exact ⟨by simp, S.below⟩
def icmp (x y : Int) : Int := if x < y then -1 else if y < x then 1 else 0
theorem cmpInt_calls (x y : Int) (w : World) : Calls Tryd.prog 54 #[.int .i64 x, .int .i64 y] w fun r w' => r = .returned (.int .i64 (icmp x y)) ∧ Below w.heap.size w w' := by
  have S := St.init (fun _ => False) w
  by_cases h1 : x < y
  · go_enter Tryd.func54, Tryd.ntmps54
    go_wp2_with first | (go_at_call 86; refine Calls.mono (isNaN_calls _ _) ?_; rintro e wz ⟨rfl, hE⟩; replace S := S.ext (Keep.of_below hE); clear hE) | ((with_reducible refine tot_done ?ht ?_); (case ht => kernel_rfl))
    go_ret
    exact ⟨ret_int (by unfold icmp; rw [if_pos (by omega)]), S.below⟩
  · by_cases h2 : y < x
    · go_enter Tryd.func54, Tryd.ntmps54
      go_wp2_with first | (go_at_call 86; refine Calls.mono (isNaN_calls _ _) ?_; rintro e wz ⟨rfl, hE⟩; replace S := S.ext (Keep.of_below hE); clear hE) | ((with_reducible refine tot_done ?ht ?_); (case ht => kernel_rfl))
      go_ret
      exact ⟨ret_int (by unfold icmp; rw [if_neg (by omega), if_pos (by omega)]), S.below⟩
    · go_enter Tryd.func54, Tryd.ntmps54
      go_wp2_with first | (go_at_call 86; refine Calls.mono (isNaN_calls _ _) ?_; rintro e wz ⟨rfl, hE⟩; replace S := S.ext (Keep.of_below hE); clear hE) | ((with_reducible refine tot_done ?ht ?_); (case ht => kernel_rfl))
      go_ret
      exact ⟨ret_int (by unfold icmp; rw [if_neg (by omega), if_neg (by omega)]), S.below⟩
def orL : List Int → Int
  | [] => 0
  | x :: l => if x ≠ 0 then x else orL l
theorem orL_at {l : List Int} {j : Nat} {x : Int} (h : ∀ (q : Nat) y, q < j → l[q]? = some y → y = 0) (hj : l[j]? = some x) (hx : x ≠ 0) : orL l = x := by
  induction l generalizing j with
  | nil => simp at hj
  | cons a l ih =>
    cases j with
    | zero => simp at hj; subst hj; simp [orL, hx]
    | succ j =>
      have ha := h 0 a (by omega) rfl
      rw [orL, if_neg (by simp [ha])]
      exact ih (j := j) (fun q y hq hy => h (q + 1) y (by omega) (by simpa using hy)) (by simpa using hj)
theorem orL_zero {l : List Int} (h : ∀ (q : Nat) y, l[q]? = some y → y = 0) : orL l = 0 := by
  induction l with
  | nil => rfl
  | cons a l ih =>
    have ha := h 0 a rfl
    rw [orL, if_neg (by simp [ha])]
    exact ih (fun q y hy => h (q + 1) y (by simpa using hy))
def OrRel (ad : Option Addr) (c : Nat) (l : List Int) (w : World) (i : Value) (wr : World) : Prop :=
  ∃ j : Nat, j ≤ l.length ∧ i = .int .i64 j ∧ (∀ (q : Nat) y, q < j → l[q]? = some y → y = 0) ∧ St (fun _ => False) w wr [Sl true intE 1 (.slice ad l.length c) l]
theorem orInt_calls (v : Value) (l : List Int) (w : World) (F : Nat → Prop) (h : (Sl true intE 1 v l).at_ w F) (hn : l.length ≤ 4294967296) : Calls Tryd.prog 53 #[v] w fun r w' => r = .returned (.int .i64 (orL l)) ∧ Below w.heap.size w w' := by
  have S : St (fun _ => False) w w [Sl true intE 1 v l] := (St.init _ w).share rfl rfl h
  obtain ⟨F1, hs⟩ := S.sl 0 rfl
  obtain ⟨ad, cp, rfl, _⟩ := hs.form
  clear hs
  go_enter Tryd.func53, Tryd.ntmps53
  go_wp2_with first | ((with_reducible refine tot_done ?ht ?_); (case ht => kernel_rfl)) | ((with_reducible apply wps_load S 0); (case hx | hi | hu => rfl); (case hT => decide +kernel)) | ((with_reducible apply wps_load S 1); (case hx | hi | hu => rfl); (case hT => decide +kernel)) | ((with_reducible apply wps_load S 2); (case hx | hi | hu => rfl); (case hT => decide +kernel)) | ((with_reducible apply wps_load S 3); (case hx | hi | hu => rfl); (case hT => decide +kernel))
  go_loopw [8] (fun i wr => OrRel ad cp l w i wr) (fun i _ => l.length - (intOf i).toNat)
  case atStart => exact ⟨0, Nat.zero_le _, rfl, fun q r h => by omega, S⟩
  case round =>
    clear S
    obtain ⟨j, hj, rfl, hz, S⟩ := hrel
    have Hz := Lib.hid hz
    clear hz
    by_cases hlt : j < l.length
    · obtain ⟨x, hx⟩ : ∃ x, l[j]? = some x := ⟨_, List.getElem?_eq_getElem hlt⟩
      obtain ⟨R, o, rfl⟩ : ∃ R o, ad = some ⟨R, o, none⟩ := (S.sl 0 rfl).elim fun F h => h.head (Nat.zero_lt_of_lt hlt)
      have hlt2 : (j : Int) < l.length := by omega
      have Hx := Lib.hid hx
      clear hx
      by_cases h0 : x = 0
      · go_wp2_with first | ((with_reducible apply wps_load_el S 0 (hj := Hx.out) (q := 0) (u := .int .i64 x)); (case hx | hi => rfl); (case hn => omega); (case hu => rfl); (case hT => decide +kernel)) | ((with_reducible refine tot_done ?ht ?_); (case ht => kernel_rfl)) | ((with_reducible apply wps_load S 0); (case hx | hi | hu => rfl); (case hT => decide +kernel)) | ((with_reducible apply wps_load S 1); (case hx | hi | hu => rfl); (case hT => decide +kernel)) | ((with_reducible apply wps_load S 2); (case hx | hi | hu => rfl); (case hT => decide +kernel)) | ((with_reducible apply wps_load S 3); (case hx | hi | hu => rfl); (case hT => decide +kernel))
        go_roundw
        case rel =>
          refine ⟨j + 1, by omega, by go_num, fun q r hq hr => ?_, S⟩
          by_cases e : q = j
          · subst e; rw [Hx.out] at hr; cases hr; exact h0
          · exact Hz.out q r (by omega) hr
        case measure => simp [intOf]; omega
      · go_wp2_with first | ((with_reducible apply wps_load_el S 0 (hj := Hx.out) (q := 0) (u := .int .i64 x)); (case hx | hi => rfl); (case hn => omega); (case hu => rfl); (case hT => decide +kernel)) | ((with_reducible refine tot_done ?ht ?_); (case ht => kernel_rfl)) | ((with_reducible apply wps_load S 0); (case hx | hi | hu => rfl); (case hT => decide +kernel)) | ((with_reducible apply wps_load S 1); (case hx | hi | hu => rfl); (case hT => decide +kernel)) | ((with_reducible apply wps_load S 2); (case hx | hi | hu => rfl); (case hT => decide +kernel)) | ((with_reducible apply wps_load S 3); (case hx | hi | hu => rfl); (case hT => decide +kernel))
        go_ret
        exact ⟨ret_int (orL_at Hz.out Hx.out h0).symm, S.below⟩
    · obtain rfl : j = l.length := by omega
      go_wp2_with first | ((with_reducible refine tot_done ?ht ?_); (case ht => kernel_rfl)) | ((with_reducible apply wps_load S 0); (case hx | hi | hu => rfl); (case hT => decide +kernel)) | ((with_reducible apply wps_load S 1); (case hx | hi | hu => rfl); (case hT => decide +kernel)) | ((with_reducible apply wps_load S 2); (case hx | hi | hu => rfl); (case hT => decide +kernel)) | ((with_reducible apply wps_load S 3); (case hx | hi | hu => rfl); (case hT => decide +kernel))
      go_ret
      exact ⟨ret_int (orL_zero fun q y hy => Hz.out q y (List.getElem?_eq_some_iff.1 hy).1 hy).symm, S.below⟩
end Go.Proofs.YtegcghofkbdgiaaDoor
/- The library's slices.SortFunc on a slice that is owned, as a step of the state. Over any program. -/
namespace Go.Proofs.YtegcghofkbdgiaaDoor.Mem
open Go Go.RowKit Reg Go.Shelf Go.Sort

/-- Blocks came, and answers were drawn: nothing else. -/
def Grew (w w' : World) : Prop := ∃ q os, w' = grow (w.drewN q) os
theorem heap_grow (w : World) (os : Array Obj) {b : Nat} (hb : b < w.heap.size) : (grow w os).heap[b]? = w.heap[b]? := by
  show (w.heap ++ os)[b]? = _
  rw [Array.getElem?_append_left hb]
theorem Grew.of_keep {w w' : World} (h : Keep (fun _ => False) w w') : Grew w w' := by
  refine ⟨w'.drawn - w.drawn, w'.heap.extract w.heap.size w'.heap.size, ?_⟩
  have hh : w'.heap = w.heap ++ w'.heap.extract w.heap.size w'.heap.size := by
    apply Array.ext_getElem?
    intro i
    by_cases hi : i < w.heap.size
    · rw [Array.getElem?_append_left hi, h.block i hi id]
    · rw [Array.getElem?_append_right (by omega), Array.getElem?_extract]
      have hs := h.size
      split
      · congr 1; omega
      · rw [Array.getElem?_eq_none (by omega)]
  have hd := h.drawn
  cases w; cases w'
  simp only [grow, World.drewN, World.mk.injEq]
  exact ⟨hh, h.tape, by simp only at hd ⊢; omega, h.os, h.output⟩
section
variable {α : Type} [Inhabited α]
theorem putCells_take {enc : α → Value} {d : Array α} {c : Array Value} (h : d.size ≤ c.size) : (putCells enc 0 d c).toList.take d.size = d.toList.map enc := by
  apply List.ext_getElem?
  intro i
  by_cases hi : i < d.size
  · rw [List.getElem?_take_of_lt hi, Array.getElem?_toList, List.getElem?_map, Array.getElem?_toList, Array.getElem?_eq_getElem hi]
    simp only [putCells, Array.getElem?_mapIdx, Array.getElem?_eq_getElem (show i < c.size by omega), Option.map_some, Nat.zero_le, Nat.zero_add, true_and, if_pos hi, Nat.sub_zero, getElem!_pos d i hi]
  · rw [List.getElem?_eq_none (by simp; omega), List.getElem?_eq_none (by simp; omega)]
theorem size_putCells {enc : α → Value} {d : Array α} {c : Array Value} {o : Nat} : (putCells enc o d c).size = c.size := by simp [putCells]
theorem heap_putRow {enc : α → Value} {w : World} {R m o : Nat} {d : Array α} {cur : Array Value} {E : TypeId} {fr : Nat × Nat} (os : Array Obj) (hR : w.heap[R]? = some (.cells cur E fr)) :
    (grow (putRow enc (Sort.ahead w m) R o d) os).heap[R]? = some (.cells (putCells enc o d cur) E fr) := by
  have hl := (Array.getElem?_eq_some_iff.1 hR).1
  rw [heap_grow _ _ (by rw [size_putRow]; exact hl)]
  show (w.heap.modify R (onCells (putCells enc o d)))[R]? = _
  rw [Array.getElem?_modify, if_pos rfl, hR]; rfl
theorem keep_putRow {enc : α → Value} {w : World} {R m o : Nat} {d : Array α} (os : Array Obj) : Keep (fun b => b = R) w (grow (putRow enc (Sort.ahead w m) R o d) os) := by
  refine ⟨rfl, rfl, rfl, ?_, fun b hb hn => ?_, Nat.le_add_right _ _⟩
  · show w.heap.size ≤ ((w.heap.modify R _) ++ os).size
    simp
  · rw [heap_grow _ _ (by rw [size_putRow]; exact hb)]
    show (w.heap.modify R _)[b]? = _
    rw [Array.getElem?_modify, if_neg (fun e => hn e.symm)]
theorem flatK_list {enc : α → List Value} {k : Nat} (hk : ∀ x, (enc x).length = k) (d : Array α) : (flatK enc k d).toList = flatE enc d.toList := by
  apply List.ext_getElem?
  intro i
  by_cases hi : i < d.size * k
  · have k0 : 0 < k := by rcases Nat.eq_zero_or_pos k with h | h; · subst h; simp at hi
                          · exact h
    have hj : i / k < d.size := (Nat.div_lt_iff_lt_mul k0).2 hi
    have e1 : (flatK enc k d).toList[i]? = some ((enc d[i / k]!)[i % k]!) := by
      rw [Array.getElem?_toList, Array.getElem?_eq_getElem (by simpa using hi), ← get_flatK enc k d i hi, getElem!_pos (flatK enc k d) i (by simpa using hi)]
    have e2 : i / k * k + i % k = i := by rw [Nat.mul_comm]; exact Nat.div_add_mod i k
    have hg := flatE_get (enc := enc) hk (xs := d.toList) (i := i / k) (x := d[i / k]) (by rw [Array.getElem?_toList, Array.getElem?_eq_getElem hj]) (i % k) (Nat.mod_lt _ k0)
    rw [e2] at hg
    rw [e1, hg, getElem!_pos d (i / k) hj, List.getElem?_eq_getElem (by rw [hk]; exact Nat.mod_lt _ k0), getElem!_pos (enc d[i / k]) (i % k) (by rw [hk]; exact Nat.mod_lt _ k0)]
  · rw [List.getElem?_eq_none (by simp; omega), List.getElem?_eq_none (by rw [flatE_length hk]; simp; omega)]
theorem perm_list {d d' : Array α} (h : PermIn 0 d.size d d') : d'.toList.Perm d.toList := by
  obtain ⟨hs, _, hp⟩ := h
  simp [← hs] at hp
  rwa [List.take_of_length_le (by simp [hs])] at hp
theorem sorted_list {lt : α → α → Bool} {d d' : Array α} (hs : d'.size = d.size) (h : SortedIn lt 0 d.size d') : d'.toList.Pairwise (fun a b => lt b a = false) := by
  rw [List.pairwise_iff_getElem]
  intro i j hi hj hij
  simp only [Array.length_toList] at hi hj
  have := h i j (Nat.zero_le _) hij (by omega)
  rwa [getElem!_pos d' i hi, getElem!_pos d' j hj] at this
end

section
variable {P : Program} {ρ : Ren} {α : Type} [Inhabited α] {E : TypeId} {enc : α → List Value} {k : Nat} {G : Nat → Prop} {w0 w : World} {L : List Asn} {i : Nat}
/-- A slice of structs, sorted. -/
theorem sortK (Ly : SlLaysF0.n6 P ρ) (aE : ∀ w, (isAgg (ρ.t 24)).run P w = .ok true w) (zE : ∀ w, (Go.sizeOf (ρ.t 24)).run P w = .ok k w) (hk : ∀ x, (enc x).length = k) (h1 : ∀ x, ∀ v ∈ enc x, v.oneCell' = true) (cf : α → α → Int) (hO : SWO (ltOf cf))
    (g : Nat) (cb : Array Value) (eg : ∀ args w, (callFunc g args).run P w = .ok (.enter g args) w) {R n c : Nat} {xs : List α} (S : St G w0 w L) (hi : L[i]? = some (Own E enc k (.slice (some ⟨R, 0, none⟩) n c) xs)) (hn : xs.length < 4611686018427387904)
    (hcmp : ∀ W, Keep (fun b => b = R) w W → ∀ x y : α, Calls P g (#[.agg (enc x).toArray, .agg (enc y).toArray] ++ cb) W fun e w' => e = .returned (.int .i64 (cf x y)) ∧ Grew W w') :
    Calls P (ρ.f 6) #[.slice (some ⟨R, 0, none⟩) n c, .func (.func g) #[] cb] w fun e w' => e = .returned (.tuple #[]) ∧ ∃ ys : List α, ys.Perm xs ∧ ys.Pairwise (fun a b => ltOf cf b a = false) ∧ St G w0 w' (L.set i (Own E enc k (.slice (some ⟨R, 0, none⟩) n c) ys)) := by
  obtain ⟨F0, hF0⟩ := S.get hi
  obtain ⟨hlen, hown⟩ := hF0.1
  rcases hown with ⟨e, _⟩ | ⟨g', cap, cur, e, _, hg, hnc, hcm, hcs, htake⟩
  · simp at e
  · simp only [Value.slice.injEq, Option.some.injEq, Addr.mk.injEq] at e
    obtain ⟨⟨rfl, _, _⟩, rfl, rfl⟩ := e
    have hRl := (Array.getElem?_eq_some_iff.1 hg).1
    have hcells := World.ownsRow.cells (show w.ownsRow 0 E k _ _ _ from hF0.1) (g := R) rfl
    have hfl : (flatK enc k xs.toArray).toList = flatE enc xs := by rw [flatK_list hk]
    have hH : HoldsK enc k w R 0 xs.toArray := fun j hj => by
      have hj' : j < (flatE enc xs).length := by rw [← hfl]; simpa using hj
      refine ⟨?_, by rw [Nat.zero_add]; exact frozen_of hg j⟩
      have := hcells j (flatE enc xs)[j] (List.getElem?_eq_getElem hj')
      rw [add_none] at this
      rw [this]
      congr 1
      have e1 : (flatK enc k xs.toArray)[j]! = (flatE enc xs)[j] := by
        rw [getElem!_pos _ j hj, ← Array.getElem_toList]
        simp only [hfl]
      exact e1.symm
    have key := AnyQ.slices_SortFunc Ly k aE zE enc hk h1 cf hO g cb R 0 c xs.toArray w eg (fun m os dk hd x y => (hcmp _ (keep_putRow os) x y).mono fun _ _ ⟨he, q, os', hw⟩ => ⟨he, q, os', hw⟩) hH hRl (by simpa using hn)
    simp only [List.size_toArray] at key
    refine key.mono ?_
    rintro e w' ⟨rfl, d', m, os, hp, hs, rfl⟩
    have hds : d'.size = xs.length := by simpa using hp.1
    refine ⟨rfl, d'.toList, by simpa using perm_list (d := xs.toArray) (by simpa using hp), sorted_list (d := xs.toArray) (by simpa using hds) (by simpa using hs), S.step hi rfl fun F hF => ⟨F, (keep_putRow os).mono (fun x _ h e => h ((hF.2 x).2 (by simp [Value.ownBlock, e]))), ⟨?_, hF.2⟩, fun x h => .inl h⟩⟩
    have hsz : (flatK enc k d').size = xs.length * k := by simp [hds]
    have hcs' : xs.length * k ≤ cur.size := by rw [hcs]; exact Nat.mul_le_mul_right k hnc
    have hll : d'.toList.length = xs.length := by simpa using hds
    refine ⟨by rw [flatE_length hk], .inr ⟨R, c, putCells id 0 (flatK enc k d') cur, by rw [hll], Nat.zero_le _, heap_putRow os hg, by rw [hll]; exact hnc, hcm, by rw [size_putCells]; exact hcs, ?_⟩⟩
    have := putCells_take (enc := id) (d := flatK enc k d') (c := cur) (by rw [hsz]; exact hcs')
    rw [hsz, List.map_id, flatK_list hk] at this
    rw [hll]; exact this
end
end Go.Proofs.YtegcghofkbdgiaaDoor.Mem

import Derived.Test.YtcbdacmdmaoegaaMem
import Derived.Test.YtcbdacmdmaoegaaReg
import Derived.Lib.Hide
/- A state of memory as a list of things that lie apart: one hypothesis for a whole walk. Over any program. -/
namespace Go.Proofs.Ytcbdacmdmaoegaa.Mem
open Go Go.RowKit

/-- What is said of some blocks. Shared: others may say something of them, too, and nobody writes them. -/
structure Asn where
  sh : Bool
  at_ : World → (Nat → Prop) → Prop
  loc : ∀ {w w' : World} {F : Nat → Prop}, at_ w F → (∀ b, F b → w'.heap[b]? = w.heap[b]?) → at_ w' F
  lt : ∀ {w : World} {F : Nat → Prop}, at_ w F → ∀ b, F b → b < w.heap.size

/-- Since w0 only blocks of G and new ones were turned; these things lie in w, apart. -/
structure St (G : Nat → Prop) (w0 w : World) (L : List Asn) : Prop where
  keep : Keep G w0 w
  ex : ∃ Fs : Nat → Nat → Prop, (∀ i A, L[i]? = some A → A.at_ w (Fs i) ∧ (A.sh = false → ∀ b, Fs i b → G b ∨ w0.heap.size ≤ b)) ∧
      ∀ i j A B, i < j → L[i]? = some A → L[j]? = some B → (A.sh = true ∧ B.sh = true) ∨ ∀ b, Fs i b → ¬ Fs j b

section
variable {G : Nat → Prop} {w0 w w' : World} {L : List Asn} {A A' : Asn} {i : Nat}
theorem St.init (G : Nat → Prop) (w : World) : St G w w [] := ⟨Keep.refl _ _, fun _ _ => False, fun i A h => by simp at h, fun i j A B _ h => by simp at h⟩
theorem St.get (S : St G w0 w L) (hi : L[i]? = some A) : ∃ F, A.at_ w F := let ⟨Fs, h, _⟩ := S.ex; ⟨Fs i, (h i A hi).1⟩
theorem St.ext (S : St G w0 w L) (hK : Keep (fun _ => False) w w') : St G w0 w' L := by
  obtain ⟨Fs, h, hd⟩ := S.ex
  exact ⟨S.keep.trans hK (fun _ _ h => ⟨h, id⟩), Fs, fun i A hi => ⟨A.loc (h i A hi).1 (fun b hb => hK.block b (A.lt (h i A hi).1 b hb) id), (h i A hi).2⟩, hd⟩
theorem St.below (S : St (fun _ => False) w0 w L) : Below w0.heap.size w0 w := S.keep.below
theorem St.size (S : St G w0 w L) : w0.heap.size ≤ w.heap.size := S.keep.size
theorem St.grow {F : Nat → Prop} (S : St G w0 w L) (hK : Keep (fun _ => False) w w') (hA : A.at_ w' F) (hF : ∀ b, F b → w.heap.size ≤ b) : St G w0 w' (A :: L) := by
  obtain ⟨Fs, h, hd⟩ := S.ex
  refine ⟨(S.ext hK).keep, fun i => match i with | 0 => F | i + 1 => Fs i, fun i B hi => ?_, fun i j B C hij hi hj => ?_⟩
  · cases i with
    | zero => simp at hi; subst hi; exact ⟨hA, fun _ b hb => .inr (Nat.le_trans S.size (hF b hb))⟩
    | succ i =>
      simp at hi
      exact ⟨B.loc (h i B hi).1 (fun b hb => hK.block b (B.lt (h i B hi).1 b hb) id), (h i B hi).2⟩
  · cases j with
    | zero => omega
    | succ j =>
      simp at hj
      cases i with
      | zero => exact .inr fun b hb hb' => by have := hF b hb; have := C.lt (h j C hj).1 b hb'; omega
      | succ i => simp at hi; exact hd i j B C (by omega) hi hj
theorem St.step (S : St G w0 w L) (hi : L[i]? = some A) (ho : A.sh = false) (h : ∀ F, A.at_ w F → ∃ F', Keep F w w' ∧ A'.at_ w' F' ∧ ∀ b, F' b → F b ∨ w.heap.size ≤ b) : St G w0 w' (L.set i A') := by
  obtain ⟨Fs, hf, hd⟩ := S.ex
  obtain ⟨F', hK, hA', hF'⟩ := h (Fs i) (hf i A hi).1
  have hil := (List.getElem?_eq_some_iff.1 hi).1
  have hnew : ∀ b, F' b → Fs i b ∨ w.heap.size ≤ b := hF'
  have apart : ∀ j B, j ≠ i → L[j]? = some B → ∀ b, Fs j b → ¬ Fs i b := by
    intro j B hj hB b hb hb'
    rcases Nat.lt_or_gt_of_ne hj with h | h
    · rcases hd j i B A h hB hi with ⟨_, e⟩ | e
      · rw [ho] at e; cases e
      · exact e b hb hb'
    · rcases hd i j A B h hi hB with ⟨e, _⟩ | e
      · rw [ho] at e; cases e
      · exact e b hb' hb
  refine ⟨S.keep.trans hK (fun x hx hn => ⟨hn, fun hb => ?_⟩), fun j => if j = i then F' else Fs j, fun j B hj => ?_, fun j k B C hjk hj hk => ?_⟩
  · rcases (hf i A hi).2 ho x hb with h | h
    · exact hn h
    · omega
  · by_cases e : j = i
    · subst e
      rw [List.getElem?_set_self hil] at hj
      cases hj
      simp only [if_true]
      refine ⟨hA', fun _ b hb => ?_⟩
      rcases hnew b hb with h | h
      · exact (hf j A hi).2 ho b h
      · exact .inr (Nat.le_trans S.size h)
    · rw [List.getElem?_set_ne (Ne.symm e)] at hj
      simp only [if_neg e]
      exact ⟨B.loc (hf j B hj).1 (fun b hb => hK.block b (B.lt (hf j B hj).1 b hb) (apart j B e hj b hb)), (hf j B hj).2⟩
  · by_cases e : j = i
    · subst e
      have e' : k ≠ j := by omega
      rw [List.getElem?_set_ne (Ne.symm e')] at hk
      simp only [if_true, if_neg e']
      refine .inr fun b hb hb' => ?_
      rcases hnew b hb with h | h
      · exact apart k C e' hk b hb' h
      · have := C.lt (hf k C hk).1 b hb'; omega
    · rw [List.getElem?_set_ne (Ne.symm e)] at hj
      by_cases e' : k = i
      · subst e'
        simp only [if_true, if_neg e]
        refine .inr fun b hb hb' => ?_
        rcases hnew b hb' with h | h
        · exact apart j B e hj b hb h
        · have := B.lt (hf j B hj).1 b hb; omega
      · rw [List.getElem?_set_ne (Ne.symm e')] at hk
        simp only [if_neg e, if_neg e']
        exact hd j k B C hjk hj hk
/-- A thing that only was read, or that is new: no other is turned. -/
theorem St.same (S : St G w0 w L) (hi : L[i]? = some A) (h : ∀ F, A.at_ w F → A'.at_ w F) (hs : A.sh = A'.sh) : St G w0 w (L.set i A') := by
  obtain ⟨Fs, hf, hd⟩ := S.ex
  have hil := (List.getElem?_eq_some_iff.1 hi).1
  have back : ∀ (j : Nat) (B : Asn), (L.set i A')[j]? = some B → ∃ C : Asn, L[j]? = some C ∧ C.sh = B.sh ∧ (∀ F, C.at_ w F → B.at_ w F) := by
    intro j B hj
    by_cases e : j = i
    · subst e; rw [List.getElem?_set_self hil] at hj; cases hj; exact ⟨A, hi, hs, h⟩
    · rw [List.getElem?_set_ne (Ne.symm e)] at hj; exact ⟨B, hj, rfl, fun _ h => h⟩
  refine ⟨S.keep, Fs, fun j B hj => ?_, fun j k B C hjk hj hk => ?_⟩
  · obtain ⟨D, hD, h1, h2⟩ := back j B hj
    exact ⟨h2 _ (hf j D hD).1, fun e => (hf j D hD).2 (h1.trans e)⟩
  · obtain ⟨D, hD, h1, _⟩ := back j B hj
    obtain ⟨E, hE, g1, _⟩ := back k C hk
    rw [← h1, ← g1]
    exact hd j k D E hjk hD hE
/-- Some of the things, in another order. -/
def nth : List Asn → Nat → Option Asn
  | [], _ => none
  | A :: _, 0 => some A
  | _ :: L, n + 1 => nth L n
theorem nth_get : ∀ (L : List Asn) (i : Nat), nth L i = L[i]?
  | [], _ => by simp [nth]
  | _ :: _, 0 => rfl
  | _ :: L, n + 1 => by simp [nth, nth_get L n]
def pick (L : List Asn) : List Nat → List Asn
  | [] => []
  | i :: l => match nth L i with | some A => A :: pick L l | none => pick L l
def inB (L : List Asn) : List Nat → Bool
  | [] => true
  | i :: l => (match nth L i with | some _ => true | none => false) && !l.contains i && inB L l
theorem pick_get {L : List Asn} : ∀ {l : List Nat}, inB L l = true → ∀ (k : Nat) A, (pick L l)[k]? = some A → ∃ i, l[k]? = some i ∧ L[i]? = some A
  | [], _, k, A, h => by simp [pick] at h
  | i :: l, hb, k, A, h => by
    simp only [inB, Bool.and_eq_true] at hb
    cases hn : nth L i with
    | none => rw [hn] at hb; simp at hb
    | some B =>
      simp only [pick, hn] at h
      cases k with
      | zero => simp at h; subst h; exact ⟨i, rfl, by rw [← nth_get]; exact hn⟩
      | succ k => simp at h; simpa using pick_get hb.2 k A h
theorem inB_nodup {L : List Asn} : ∀ {l : List Nat}, inB L l = true → l.Nodup
  | [], _ => List.nodup_nil
  | i :: l, h => by
    simp only [inB, Bool.and_eq_true, Bool.not_eq_true', List.contains_eq_mem, decide_eq_false_iff_not] at h
    exact List.nodup_cons.2 ⟨h.1.2, inB_nodup h.2⟩
theorem St.pick (S : St G w0 w L) (l : List Nat) (hb : inB L l = true) : St G w0 w (pick L l) := by
  obtain ⟨Fs, hf, hd⟩ := S.ex
  have hn := inB_nodup hb
  refine ⟨S.keep, fun k => Fs (l.getD k 0), fun k A hk => ?_, fun j k A B hjk hj hk => ?_⟩
  · obtain ⟨i, h1, h2⟩ := pick_get hb k A hk
    simp only [List.getD, h1, Option.getD_some]
    exact hf i A h2
  · obtain ⟨a, h1, h2⟩ := pick_get hb j A hj
    obtain ⟨b, g1, g2⟩ := pick_get hb k B hk
    simp only [List.getD, h1, g1, Option.getD_some]
    have hab : a ≠ b := fun e => by
      obtain ⟨x1, x2⟩ := List.getElem?_eq_some_iff.1 h1
      obtain ⟨y1, y2⟩ := List.getElem?_eq_some_iff.1 g1
      have := (List.getElem_inj hn).1 (x2.trans (e.trans y2.symm))
      omega
    rcases Nat.lt_or_gt_of_ne hab with h | h
    · exact hd a b A B h h2 g2
    · rcases hd b a B A h g2 h2 with ⟨e1, e2⟩ | e
      · exact .inl ⟨e2, e1⟩
      · exact .inr fun x hx hx' => e x hx' hx
/-- Things that are shared lie beside others that are. -/
theorem St.share {F : Nat → Prop} (S : St G w0 w L) (hsh : A.sh = true) (hall : L.all (·.sh) = true) (hA : A.at_ w F) : St G w0 w (A :: L) := by
  obtain ⟨Fs, h, hd⟩ := S.ex
  rw [List.all_eq_true] at hall
  refine ⟨S.keep, fun i => match i with | 0 => F | i + 1 => Fs i, fun i B hi => ?_, fun i j B C hij hi hj => ?_⟩
  · cases i with
    | zero => simp at hi; subst hi; exact ⟨hA, fun e => by rw [hsh] at e; cases e⟩
    | succ i => simp at hi; exact h i B hi
  · cases j with
    | zero => omega
    | succ j =>
      simp at hj
      cases i with
      | zero => simp at hi; subst hi; exact .inl ⟨hsh, hall C (List.mem_of_getElem? hj)⟩
      | succ i => simp at hi; exact hd i j B C (by omega) hi hj
/-- One thing that is owned, alone. -/
theorem St.one {F : Nat → Prop} (w : World) (hA : A.at_ w F) : St F w w [A] :=
  ⟨Keep.refl _ _, fun _ => F, fun i B hi => by
    cases i with
    | zero => simp at hi; subst hi; exact ⟨hA, fun _ b hb => .inl hb⟩
    | succ i => simp at hi, fun i j B C hij hi hj => by
    cases j with
    | zero => omega
    | succ j => simp at hj⟩
/-- What is new in another walk's end is new here. -/
theorem St.join {N : List Asn} (S : St G w0 w L) (T : St (fun _ => False) w w' N) (hN : N.all (fun A => !A.sh) = true) : St G w0 w' (N ++ L) := by
  obtain ⟨Fs, h0, hd⟩ := S.ex
  obtain ⟨Gs, g, gd⟩ := T.ex
  rw [List.all_eq_true] at hN
  have own : ∀ (i : Nat) (A : Asn), N[i]? = some A → A.sh = false := fun i A hi => by simpa using hN A (List.mem_of_getElem? hi)
  have hK := T.keep
  refine ⟨S.keep.trans hK (fun _ _ h => ⟨h, id⟩), fun i => if i < N.length then Gs i else Fs (i - N.length), fun i A hi => ?_, fun i j A B hij hi hj => ?_⟩
  · by_cases e : i < N.length
    · rw [List.getElem?_append_left e] at hi
      simp only [if_pos e]
      refine ⟨(g i A hi).1, fun ho b hb => ?_⟩
      rcases (g i A hi).2 ho b hb with h | h
      · exact h.elim
      · exact .inr (Nat.le_trans S.size h)
    · rw [List.getElem?_append_right (by omega)] at hi
      simp only [if_neg e]
      exact ⟨A.loc (h0 _ A hi).1 (fun b hb => hK.block b (A.lt (h0 _ A hi).1 b hb) id), (h0 _ A hi).2⟩
  · by_cases e : i < N.length
    · rw [List.getElem?_append_left e] at hi
      by_cases e' : j < N.length
      · rw [List.getElem?_append_left e'] at hj
        simp only [if_pos e, if_pos e']
        exact gd i j A B hij hi hj
      · rw [List.getElem?_append_right (by omega)] at hj
        simp only [if_pos e, if_neg e']
        refine .inr fun b hb hb' => ?_
        rcases (g i A hi).2 (own i A hi) b hb with h | h
        · exact h
        · have := B.lt (h0 _ B hj).1 b hb'; omega
    · rw [List.getElem?_append_right (by omega)] at hi hj
      simp only [if_neg e, if_neg (show ¬ j < N.length by omega)]
      exact hd _ _ A B (by omega) hi hj
/-- A part of the state is lent to a call (ow: to be turned; ro: to be read), and what comes back is put ahead of the rest (kp). -/
theorem St.lend (S : St G w0 w L) (ow ro kp : List Nat) (hb : inB L (ow ++ ro) = true) (hro : (Mem.pick L ro).all (·.sh) = true) (hkp : inB L (ow ++ kp) = true) :
    ∃ F, St F w w (Mem.pick L (ow ++ ro)) ∧ ∀ w' N, St F w w' N → N.all (fun A => !A.sh) = true → St G w0 w' (N ++ Mem.pick L kp) := by
  obtain ⟨Fs, hf, hd⟩ := S.ex
  have hn := inB_nodup hb
  have hn2 := List.nodup_append.1 (inB_nodup hkp)
  have inB_right : ∀ l : List Nat, inB L (l ++ kp) = true → inB L kp = true := by
    intro l
    induction l with
    | nil => exact id
    | cons q l ih => intro h; simp only [List.cons_append, inB, Bool.and_eq_true] at h; exact ih h.2
  have hkp' := inB_right ow hkp
  let F : Nat → Prop := fun b => ∃ i A, i ∈ ow ∧ L[i]? = some A ∧ A.sh = false ∧ Fs i b
  have picks := (S.pick (ow ++ ro) hb).ex
  rw [List.all_eq_true] at hro
  have proper : ∀ k A, (Mem.pick L (ow ++ ro))[k]? = some A → ∃ i, (ow ++ ro)[k]? = some i ∧ L[i]? = some A := fun k A h => pick_get hb k A h
  have inro : ∀ i A, i ∈ ro → L[i]? = some A → A.sh = true := by
    intro i A hi hA
    have : A ∈ Mem.pick L ro := by
      have key : ∀ l : List Nat, i ∈ l → A ∈ Mem.pick L l := by
        intro l
        induction l with
        | nil => intro h; cases h
        | cons j l ih =>
          intro h
          unfold Mem.pick
          rcases List.mem_cons.1 h with rfl | h
          · rw [nth_get, hA]; simp
          · cases hnj : nth L j with
            | none => exact ih h
            | some B => exact List.mem_cons_of_mem _ (ih h)
      exact key ro hi
    exact hro A this
  have cross : ∀ a b A B, a ≠ b → L[a]? = some A → L[b]? = some B → (A.sh = true ∧ B.sh = true) ∨ ∀ x, Fs a x → ¬ Fs b x := by
    intro a b A B hab hA hB
    rcases Nat.lt_or_gt_of_ne hab with h | h
    · exact hd a b A B h hA hB
    · rcases hd b a B A h hB hA with ⟨e1, e2⟩ | e
      · exact .inl ⟨e2, e1⟩
      · exact .inr fun x hx hx' => e x hx' hx
  refine ⟨F, ⟨Keep.refl _ _, fun k => Fs ((ow ++ ro).getD k 0), fun k A hk => ?_, fun j k A B hjk hj hk => ?_⟩, fun w' N T hN => ?_⟩
  · obtain ⟨i, h1, h2⟩ := proper k A hk
    simp only [List.getD, h1, Option.getD_some]
    refine ⟨(hf i A h2).1, fun ho b hb' => .inl ⟨i, A, ?_, h2, ho, hb'⟩⟩
    rcases List.mem_append.1 (List.mem_of_getElem? h1) with h | h
    · exact h
    · rw [inro i A h h2] at ho; cases ho
  · obtain ⟨a, h1, h2⟩ := proper j A hj
    obtain ⟨b, g1, g2⟩ := proper k B hk
    simp only [List.getD, h1, g1, Option.getD_some]
    refine cross a b A B (fun e => ?_) h2 g2
    obtain ⟨x1, x2⟩ := List.getElem?_eq_some_iff.1 h1
    obtain ⟨y1, y2⟩ := List.getElem?_eq_some_iff.1 g1
    have := (List.getElem_inj hn).1 (x2.trans (e.trans y2.symm))
    omega
  · obtain ⟨Gs, g, gd⟩ := T.ex
    have hK := T.keep
    rw [List.all_eq_true] at hN
    have own : ∀ (i : Nat) (A : Asn), N[i]? = some A → A.sh = false := fun i A hi => by simpa using hN A (List.mem_of_getElem? hi)
    have left : ∀ (k : Nat) (A : Asn), (Mem.pick L kp)[k]? = some A → ∃ i : Nat, kp[k]? = some i ∧ L[i]? = some A ∧ i ∉ ow := by
      intro k A hk
      obtain ⟨i, h1, h2⟩ := pick_get hkp' k A hk
      exact ⟨i, h1, h2, fun h => hn2.2.2 i h i (List.mem_of_getElem? h1) rfl⟩
    have notF : ∀ i A, L[i]? = some A → i ∉ ow → ∀ b, Fs i b → ¬ F b := by
      rintro i A hA hi b hb' ⟨j, B, hj, hB, ho, hb2⟩
      rcases cross i j A B (fun e => hi (e ▸ hj)) hA hB with ⟨_, e⟩ | e
      · rw [ho] at e; cases e
      · exact e b hb' hb2
    refine ⟨S.keep.trans hK (fun x hx hn => ⟨hn, ?_⟩), fun i => if i < N.length then Gs i else Fs (kp.getD (i - N.length) 0), fun i A hi => ?_, fun i j A B hij hi hj => ?_⟩
    · rintro ⟨i, A, _, hA, ho, hx'⟩
      rcases (hf i A hA).2 ho x hx' with h | h
      · exact hn h
      · omega
    · by_cases e : i < N.length
      · rw [List.getElem?_append_left e] at hi
        simp only [if_pos e]
        refine ⟨(g i A hi).1, fun ho b hb' => ?_⟩
        rcases (g i A hi).2 ho b hb' with ⟨j, B, _, hB, ho', hx⟩ | h
        · exact (hf j B hB).2 ho' b hx
        · exact .inr (Nat.le_trans S.size h)
      · rw [List.getElem?_append_right (by omega)] at hi
        simp only [if_neg e]
        obtain ⟨j, h1, h2, h3⟩ := left _ A hi
        simp only [List.getD, h1, Option.getD_some]
        exact ⟨A.loc (hf j A h2).1 (fun b hb' => hK.block b (A.lt (hf j A h2).1 b hb') (notF j A h2 h3 b hb')), (hf j A h2).2⟩
    · by_cases e : i < N.length
      · rw [List.getElem?_append_left e] at hi
        by_cases e' : j < N.length
        · rw [List.getElem?_append_left e'] at hj
          simp only [if_pos e, if_pos e']
          exact gd i j A B hij hi hj
        · rw [List.getElem?_append_right (by omega)] at hj
          simp only [if_pos e, if_neg e']
          obtain ⟨q, h1, h2, h3⟩ := left _ B hj
          simp only [List.getD, h1, Option.getD_some]
          refine .inr fun b hb' hb2 => ?_
          rcases (g i A hi).2 (own i A hi) b hb' with h | h
          · exact notF q B h2 h3 b hb2 h
          · have := B.lt (hf q B h2).1 b hb2; omega
      · rw [List.getElem?_append_right (by omega)] at hi hj
        simp only [if_neg e, if_neg (show ¬ j < N.length by omega)]
        obtain ⟨p, h1, h2, h3⟩ := left _ A hi
        obtain ⟨q, g1, g2, g3⟩ := left _ B hj
        simp only [List.getD, h1, g1, Option.getD_some]
        refine cross p q A B (fun e => ?_) h2 g2
        obtain ⟨x1, x2⟩ := List.getElem?_eq_some_iff.1 h1
        obtain ⟨y1, y2⟩ := List.getElem?_eq_some_iff.1 g1
        have := (List.getElem_inj hn2.2.1).1 (x2.trans (e.trans y2.symm))
        omega
end
end Go.Proofs.Ytcbdacmdmaoegaa.Mem

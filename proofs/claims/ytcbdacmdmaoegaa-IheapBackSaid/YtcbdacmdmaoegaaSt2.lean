import Derived.Test.YtcbdacmdmaoegaaAny
/- One thing of a state is lent to a call, which hands another one back in its place. Over any program. -/
namespace Go.Proofs.Ytcbdacmdmaoegaa.Mem
open Go Go.RowKit

section
variable {G : Nat → Prop} {w0 w w' : World} {L : List Asn} {A A' : Asn} {i : Nat}
theorem St.stepAt (S : St G w0 w L) (hi : L[i]? = some A) (ho : A.sh = false) : ∃ F, A.at_ w F ∧ ∀ w' A', (∃ F', Keep F w w' ∧ A'.at_ w' F' ∧ ∀ b, F' b → F b ∨ w.heap.size ≤ b) → St G w0 w' (L.set i A') := by
  obtain ⟨Fs, hf, hd⟩ := S.ex
  refine ⟨Fs i, (hf i A hi).1, fun w' A' ⟨F', hK, hA', hF'⟩ => ?_⟩
  have hil := (List.getElem?_eq_some_iff.1 hi).1
  have hnew : ∀ b, F' b → Fs i b ∨ w.heap.size ≤ b := hF'
  have apart : ∀ j B, j ≠ i → L[j]? = some B → ∀ b, Fs j b → ¬ Fs i b := by
    intro j B hj hB b hb hb'
    rcases Nat.lt_or_gt_of_ne hj with h | h
    · rcases hd j i B A h hB hi with ⟨_, e⟩ | e
      · rw [ho] at e; cases e
      · exact e b hb hb'
    · rcases hd i j A B h hi hB with ⟨e, _⟩ | e
      · rw [ho] at e; cases e
      · exact e b hb' hb
  refine ⟨S.keep.trans hK (fun x hx hn => ⟨hn, fun hb => ?_⟩), fun j => if j = i then F' else Fs j, fun j B hj => ?_, fun j k B C hjk hj hk => ?_⟩
  · rcases (hf i A hi).2 ho x hb with h | h
    · exact hn h
    · omega
  · by_cases e : j = i
    · subst e
      rw [List.getElem?_set_self hil] at hj
      cases hj
      simp only [if_true]
      refine ⟨hA', fun _ b hb => ?_⟩
      rcases hnew b hb with h | h
      · exact (hf j A hi).2 ho b h
      · exact .inr (Nat.le_trans S.size h)
    · rw [List.getElem?_set_ne (Ne.symm e)] at hj
      simp only [if_neg e]
      exact ⟨B.loc (hf j B hj).1 (fun b hb => hK.block b (B.lt (hf j B hj).1 b hb) (apart j B e hj b hb)), (hf j B hj).2⟩
  · by_cases e : j = i
    · subst e
      have e' : k ≠ j := by omega
      rw [List.getElem?_set_ne (Ne.symm e')] at hk
      simp only [if_true, if_neg e']
      refine .inr fun b hb hb' => ?_
      rcases hnew b hb with h | h
      · exact apart k C e' hk b hb' h
      · have := C.lt (hf k C hk).1 b hb'; omega
    · rw [List.getElem?_set_ne (Ne.symm e)] at hj
      by_cases e' : k = i
      · subst e'
        simp only [if_true, if_neg e]
        refine .inr fun b hb hb' => ?_
        rcases hnew b hb' with h | h
        · exact apart j B e hj b hb h
        · have := B.lt (hf j B hj).1 b hb; omega
      · rw [List.getElem?_set_ne (Ne.symm e')] at hk
        simp only [if_neg e, if_neg e']
        exact hd j k B C hjk hj hk
/-- One thing is lent to a call, and comes back turned. -/
theorem St.lend1 (S : St G w0 w L) (i : Nat) (hi : L[i]? = some A) (ho : A.sh = false) : ∃ F, A.at_ w F ∧ ∀ w' A', A'.sh = false → St F w w' [A'] → St G w0 w' (L.set i A') := by
  obtain ⟨F, h1, h2⟩ := S.stepAt hi ho
  refine ⟨F, h1, fun w' A' ho' T => ?_⟩
  obtain ⟨Gs, hg, _⟩ := T.ex
  obtain ⟨g1, g2⟩ := hg 0 A' rfl
  exact h2 w' A' ⟨Gs 0, T.keep, g1, g2 ho'⟩
end
end Go.Proofs.Ytcbdacmdmaoegaa.Mem

import Derived.Test.YtnkngclfbmcmhaaW10a
namespace Go.Proofs.Ytnkngclfbmcmhaa
open Go.RowKit Reg Mem

def BatRel (lo : Nat) (Bb lo3 : Nat) (s : List Row) (Fb : Nat → Prop) (w wq : World) (other t i : Value) (wr : World) : Prop :=
  ∃ (k c : Nat) (tm : Int), i = .int .i64 k ∧ t = .int .i64 tm ∧ k ≤ c ∧ c ≤ s.length ∧ k ≤ s.length ∧ (k = 0 → c = 0) ∧ (0 < k → ∀ r ∈ s.drop c, tm < r.key.at_) ∧ HS lo Fb wr Bb (s.drop c) ∧ Owns 3 intE 1 lo3 wr other ((s.take c).map (·.v)) ∧
    Keep Fb wq wr ∧ Below w.heap.size w wr
theorem dropWhile_later {t : Int} : ∀ {s : List Row}, Sorted s → (∀ r ∈ s, t ≤ r.key.at_) → ∀ r ∈ s.dropWhile (same_at t), t < r.key.at_
  | [], _, _ => by simp
  | a :: l, hs, hge => by
    have hc := List.pairwise_cons.1 hs
    by_cases h : same_at t a = true
    · rw [List.dropWhile_cons_of_pos h]
      exact dropWhile_later hc.2 (fun r hr => hge r (List.mem_cons_of_mem _ hr))
    · rw [List.dropWhile_cons_of_neg h]
      have ha : t < a.key.at_ := by
        have := hge a (by simp)
        simp [same_at] at h
        omega
      intro r hr
      rcases List.mem_cons.1 hr with rfl | hr
      · exact ha
      · have := hc.1 r hr
        unfold Row.lt at this
        rw [Key.lt_iff] at this
        unfold Key.ltP at this
        omega
theorem at_le_of_sorted {r : Row} {s : List Row} (hs : Sorted (r :: s)) : ∀ x ∈ r :: s, r.key.at_ ≤ x.key.at_ := by
  intro x hx
  rcases List.mem_cons.1 hx with rfl | hx
  · omega
  · have := (List.pairwise_cons.1 hs).1 x hx
    unfold Row.lt at this
    rw [Key.lt_iff] at this
    unfold Key.ltP at this
    omega
theorem mem_takeWhile {t : Int} {s : List Row} {x : Row} (h : x ∈ s.takeWhile (same_at t)) : x ∈ s ∧ x.key.at_ = t := by
  induction s with
  | nil => cases h
  | cons a l ih =>
    by_cases ha : same_at t a = true
    · rw [List.takeWhile_cons_of_pos ha] at h
      rcases List.mem_cons.1 h with rfl | h
      · exact ⟨by simp, by simpa [same_at] using ha⟩
      · exact ⟨List.mem_cons_of_mem _ (ih h).1, (ih h).2⟩
    · rw [List.takeWhile_cons_of_neg ha] at h; cases h
/-- What a batch cuts off the rest. -/
theorem batch_cut {s rest : List Row} {r : Row} {c : Nat} (hd : s.drop c = r :: rest) (hs : Sorted s) (hc : c ≤ s.length) :
    ∃ m : Nat, 0 < m ∧ ((r :: rest).takeWhile (same_at r.key.at_)).length = m ∧ s.drop (c + m) = (r :: rest).dropWhile (same_at r.key.at_) ∧ s.take (c + m) = s.take c ++ (r :: rest).takeWhile (same_at r.key.at_) ∧ c + m ≤ s.length ∧
      (∀ x ∈ (r :: rest).dropWhile (same_at r.key.at_), r.key.at_ < x.key.at_) := by
  have hsd : Sorted (r :: rest) := by rw [← hd]; exact List.Pairwise.sublist (List.drop_sublist _ _) hs
  have hta : (r :: rest).takeWhile (same_at r.key.at_) ++ (r :: rest).dropWhile (same_at r.key.at_) = s.drop c := by rw [List.takeWhile_append_dropWhile, hd]
  refine ⟨_, ?_, rfl, ?_, ?_, ?_, dropWhile_later hsd (at_le_of_sorted hsd)⟩
  · rw [List.takeWhile_cons_of_pos (by simp [same_at])]; simp
  · rw [← List.drop_drop, ← hta, List.drop_left]
  · rw [List.take_add, ← hta, List.take_left]
  · have := congrArg List.length hta
    rw [List.length_append, List.length_drop] at this
    omega
def MemRel (wb : World) (k : Nat) (x : Value) (wr : World) : Prop := ∃ q : Nat, x = .int .i64 q ∧ q ≤ k ∧ wr = wb
end Go.Proofs.Ytnkngclfbmcmhaa

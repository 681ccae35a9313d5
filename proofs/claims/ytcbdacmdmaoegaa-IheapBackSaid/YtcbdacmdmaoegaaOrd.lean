import Derived.Test.YtcbdacmdmaoegaaW1
import Derived.Sort.Statements
/- The order of keys, plain. -/
namespace Go.Proofs.Ytcbdacmdmaoegaa
open Go.Sort

theorem Key.lt_iff (k l : Key) : k.lt l = true ↔ k.at_ < l.at_ ∨ (k.at_ = l.at_ ∧ (k.src < l.src ∨ (k.src = l.src ∧ (k.sent < l.sent ∨ (k.sent = l.sent ∧ k.no < l.no))))) := by
  unfold Key.lt
  split
  · simp; omega
  · split
    · simp; omega
    · split
      · simp; omega
      · simp; omega
theorem Key.lt_irrefl' (k : Key) : k.lt k = false := by
  rw [Bool.eq_false_iff, ne_eq, Key.lt_iff]; omega
theorem Key.lt_trans' {a b c : Key} (h : a.lt b = true) (k : b.lt c = true) : a.lt c = true := by
  rw [Key.lt_iff] at *; omega
theorem Key.lt_asymm' {a b : Key} (h : a.lt b = true) : b.lt a = false := by
  rw [Bool.eq_false_iff, ne_eq, Key.lt_iff]; rw [Key.lt_iff] at h; omega
theorem Key.eq_of {a b : Key} (h : a.lt b = false) (k : b.lt a = false) : a = b := by
  rw [Bool.eq_false_iff, ne_eq, Key.lt_iff] at h k
  obtain ⟨a1, a2, a3, a4⟩ := a; obtain ⟨b1, b2, b3, b4⟩ := b
  simp only [Key.mk.injEq] at *; omega
theorem Key.le_trans' {a b c : Key} (h : b.lt a = false) (k : c.lt b = false) : c.lt a = false := by
  rw [Bool.eq_false_iff, ne_eq, Key.lt_iff] at *; omega
theorem Key.cmp_neg (k l : Key) : decide (k.cmp l < 0) = k.lt l := by
  unfold Key.cmp
  cases h : k.lt l with
  | true => simp
  | false => cases h2 : l.lt k <;> simp
/-- A strict weak order by keys. -/
theorem swo_key {α : Type} (f : α → Key) : SWO (fun x y => (f x).lt (f y)) where
  irrefl _ := Key.lt_irrefl' _
  trans _ _ _ h k := Key.lt_trans' h k
  ntrans _ _ _ h k := Key.le_trans' k h
end Go.Proofs.Ytcbdacmdmaoegaa

import Derived.Test.YtcbdacmdmaoegaaRows
import Derived.Test.YtcbdacmdmaoegaaReg
import Derived.Test.YtcbdacmdmaoegaaMem
import Derived.WalkKit
import Derived.WalkSpells
import Derived.WalkLawsBesides
namespace Go.Proofs.Ytcbdacmdmaoegaa
open Go.RowKit Reg

structure Key where
  at_ : Int
  src : Int
  sent : Int
  no : Int
  deriving DecidableEq

def Key.cells (k : Key) : List Value := [.int .i64 k.at_, .int .i64 k.src, .int .i64 k.sent, .int .i64 k.no]
def Key.val (k : Key) : Value := .agg #[.int .i64 k.at_, .int .i64 k.src, .int .i64 k.sent, .int .i64 k.no]
/-- Before, as the program has it. -/
def Key.lt (k l : Key) : Bool :=
  if k.at_ ≠ l.at_ then decide (k.at_ < l.at_) else if k.src ≠ l.src then decide (k.src < l.src) else if k.sent ≠ l.sent then decide (k.sent < l.sent) else decide (k.no < l.no)
def Key.cmp (k l : Key) : Int := if k.lt l then -1 else if l.lt k then 1 else 0

theorem ret_bool {a b : Bool} (h : a = b) : Ending.returned (.bool a) = .returned (.bool b) := by rw [h]
theorem lt1 {a b c d a' b' c' d' : Int} (h : (a != a') = true) : decide (a < a') = Key.lt ⟨a, b, c, d⟩ ⟨a', b', c', d'⟩ := by
  simp only [bne_iff_ne] at h; simp [Key.lt, h]
theorem lt2 {a b c d a' b' c' d' : Int} (h : (a != a') = false) (h2 : (b != b') = true) : decide (b < b') = Key.lt ⟨a, b, c, d⟩ ⟨a', b', c', d'⟩ := by
  simp only [bne_eq_false_iff_eq, bne_iff_ne] at h h2; simp [Key.lt, h, h2]
theorem lt3 {a b c d a' b' c' d' : Int} (h : (a != a') = false) (h2 : (b != b') = false) (h3 : (c != c') = true) : decide (c < c') = Key.lt ⟨a, b, c, d⟩ ⟨a', b', c', d'⟩ := by
  simp only [bne_eq_false_iff_eq, bne_iff_ne] at h h2 h3; simp [Key.lt, h, h2, h3]
theorem lt4 {a b c d a' b' c' d' : Int} (h : (a != a') = false) (h2 : (b != b') = false) (h3 : (c != c') = false) : decide (d < d') = Key.lt ⟨a, b, c, d⟩ ⟨a', b', c', d'⟩ := by
  simp only [bne_eq_false_iff_eq] at h h2 h3; simp [Key.lt, h, h2, h3]

theorem bcell {W w1 : World} (hb : Below W.heap.size W w1) : (∀ b o, b < W.heap.size → w1.cell? ⟨b, o, none⟩ = W.cell? ⟨b, o, none⟩) ∧ (∀ b o, b < W.heap.size → w1.frozen? ⟨b, o, none⟩ = W.frozen? ⟨b, o, none⟩) :=
  ⟨fun b o h => hb.cell (p := ⟨b, o, none⟩) h, fun b o h => hb.frozen (p := ⟨b, o, none⟩) h⟩
theorem ret_int {a b : Int} (h : a = b) : Ending.returned (.int .i64 a) = .returned (.int .i64 b) := by rw [h]
theorem before_calls (a b c d a' b' c' d' : Int) (w : World) :
    Calls Try.prog 53 #[.agg #[.int .i64 a, .int .i64 b, .int .i64 c, .int .i64 d], .agg #[.int .i64 a', .int .i64 b', .int .i64 c', .int .i64 d']] w fun e w' => e = .returned (.bool (Key.lt ⟨a, b, c, d⟩ ⟨a', b', c', d'⟩)) ∧ Below w.heap.size w w' := by
  go_enter Try.func53, Try.ntmps53
  go_wp2
  all_goals go_ret
  all_goals refine ⟨ret_bool ?_, by exact ((Below.refl _ w).alloc (Nat.le_refl _) _).alloc (by simp) _⟩
  · exact lt1 ‹_›
  · exact lt2 ‹_› ‹_›
  · exact lt3 ‹_› ‹_› ‹_›
  · exact lt4 ‹_› ‹_› ‹_›

theorem compare_calls (a b c d a' b' c' d' : Int) (w : World) :
    Calls Try.prog 32 #[.agg #[.int .i64 a, .int .i64 b, .int .i64 c, .int .i64 d], .agg #[.int .i64 a', .int .i64 b', .int .i64 c', .int .i64 d']] w fun e w' => e = .returned (.int .i64 (Key.cmp ⟨a, b, c, d⟩ ⟨a', b', c', d'⟩)) ∧ Below w.heap.size w w' := by
  go_enter Try.func32, Try.ntmps32
  go_wp2_with fail
  refine (before_calls _ _ _ _ _ _ _ _ _).mono ?_
  rintro e w1 ⟨rfl, hb1⟩
  have hc := (bcell hb1).1
  go_wp2_with (go_at_call 53; refine (before_calls _ _ _ _ _ _ _ _ _).mono ?_; rintro e w2 ⟨rfl, hb2⟩)
  all_goals go_ret
  · refine ⟨ret_int (by rw [Key.cmp, if_pos ‹_›]), ?_⟩
    exact (((Below.refl _ w).alloc (Nat.le_refl _) _).alloc (by simp) _).trans (hb1.mono (by simp; omega))
  · refine ⟨ret_int (by rw [Key.cmp, if_neg (by simp [*]), if_pos ‹_›]), ?_⟩
    exact ((((Below.refl _ w).alloc (Nat.le_refl _) _).alloc (by simp) _).trans (hb1.mono (by simp; omega))).trans (hb2.mono (by have := hb1.size; simp at this; omega))
  · refine ⟨ret_int (by rw [Key.cmp, if_neg (by simp [*]), if_neg (by simp [*])]), ?_⟩
    exact ((((Below.refl _ w).alloc (Nat.le_refl _) _).alloc (by simp) _).trans (hb1.mono (by simp; omega))).trans (hb2.mono (by have := hb1.size; simp at this; omega))
end Go.Proofs.Ytcbdacmdmaoegaa

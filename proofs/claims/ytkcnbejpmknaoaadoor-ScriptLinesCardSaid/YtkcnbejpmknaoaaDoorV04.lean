import Derived.Lib.FieldsP
import Derived.Lib.Split
import Derived.Lib.CutLaws
import Derived.Lib.CountLaws
import Derived.Lib.AtoiAll
import Derived.Lib.SpaceUEq
import Derived.Laws.RangeAny
import Derived.Laws.RangeString
/- Texts of things to do, plain: lines, words, numbers (chapter 21). No program in sight. -/
namespace Go.Proofs.YtkcnbejpmknaoaaDoor
open Go

/-! ### Cut at a byte -/
theorem idx_one (c : UInt8) : ∀ l : List UInt8, (Lib.index l [c] = -1 ∧ ∀ x ∈ l, x ≠ c) ∨ ∃ i : Nat, Lib.index l [c] = i ∧ i < l.length ∧ l[i]? = some c ∧ ∀ x ∈ l.take i, x ≠ c
  | [] => .inl ⟨rfl, by simp⟩
  | b :: l => by
    unfold Lib.index
    by_cases h : c = b
    · subst h
      exact .inr ⟨0, by simp [List.isPrefixOf], by simp, by simp, by simp⟩
    · have hp : List.isPrefixOf [c] (b :: l) = false := by simp [List.isPrefixOf, h]
      rw [if_neg (by rw [hp]; decide)]
      rcases idx_one c l with ⟨h1, h2⟩ | ⟨i, h1, h2, h3, h4⟩
      · refine .inl ⟨by rw [h1]; rfl, fun x hx => ?_⟩
        rcases List.mem_cons.1 hx with rfl | hx
        · exact Ne.symm h
        · exact h2 x hx
      · refine .inr ⟨i + 1, ?_, by simp; omega, by simpa using h3, fun x hx => ?_⟩
        · rw [h1, if_neg (by rw [beq_iff_eq]; omega)]; omega
        · rw [List.take_succ_cons] at hx
          rcases List.mem_cons.1 hx with rfl | hx
          · exact Ne.symm h
          · exact h4 x hx
def splitGo (c : UInt8) : List UInt8 → List UInt8 → List (List UInt8)
  | now, [] => [now]
  | now, x :: l => if x = c then now :: splitGo c [] l else splitGo c (now ++ [x]) l
theorem splitGo_run (c : UInt8) : ∀ (p l now : List UInt8), (∀ x ∈ p, x ≠ c) → splitGo c now (p ++ l) = splitGo c (now ++ p) l
  | [], l, now, _ => by simp
  | x :: p, l, now, h => by
    rw [List.cons_append, splitGo, if_neg (h x (by simp)), splitGo_run c p l _ fun y hy => h y (List.mem_cons_of_mem _ hy)]
    simp
theorem split_none (c : UInt8) {l : List UInt8} (h : ∀ x ∈ l, x ≠ c) : splitGo c [] l = [l] := by
  have := splitGo_run c l [] [] h
  simpa [splitGo] using this
theorem split_hit (c : UInt8) {l : List UInt8} {i : Nat} (hi : l[i]? = some c) (h : ∀ x ∈ l.take i, x ≠ c) : splitGo c [] l = l.take i :: splitGo c [] (l.drop (i + 1)) := by
  have hl := (List.getElem?_eq_some_iff.1 hi).1
  have e : l = l.take i ++ c :: l.drop (i + 1) := by
    have := (List.getElem?_eq_some_iff.1 hi).2
    rw [← this, ← List.drop_eq_getElem_cons hl, List.take_append_drop]
  have h1 := splitGo_run c (l.take i) (c :: l.drop (i + 1)) [] h
  rw [← e, List.nil_append, splitGo, if_pos rfl] at h1
  exact h1
theorem splitK_go (c : UInt8) : ∀ (k : Nat) (l : List UInt8), Lib.count l [c] ≤ k → Lib.splitK [c] 0 k l = splitGo c [] l
  | 0, l, hk => by
    rcases idx_one c l with ⟨h1, h2⟩ | ⟨i, h1, h2, h3, h4⟩
    · rw [split_none c h2]; rfl
    · have := Lib.count_hit (s := l) (sub := [c]) (i := i) (by simp) h1
      omega
  | k + 1, l, hk => by
    rcases idx_one c l with ⟨h1, h2⟩ | ⟨i, h1, h2, h3, h4⟩
    · rw [split_none c h2, Lib.splitK, if_pos (by rw [h1]; rfl)]
    · have hc := Lib.count_hit (s := l) (sub := [c]) (i := i) (by simp) h1
      rw [split_hit c h3 h4, Lib.splitK, if_neg (by rw [h1, beq_iff_eq]; omega), h1]
      simp only [Int.toNat_natCast, Nat.add_zero, List.length_cons, List.length_nil, Nat.zero_add]
      rw [splitK_go c k _ (by simp only [List.length_cons, List.length_nil, Nat.zero_add] at hc; omega)]
theorem splitB_go (c : UInt8) (s : ByteArray) : (Lib.splitB ⟨#[c]⟩ 0 (Lib.countB s ⟨#[c]⟩) s).map (·.data.toList) = splitGo c [] s.data.toList := by
  rw [Lib.splitB_data]
  exact splitK_go c _ _ (Nat.le_refl _)
theorem cut_go (c : UInt8) (l : List UInt8) : (Lib.cut l [c]).1 = (splitGo c [] l).headD [] := by
  unfold Lib.cut
  rcases idx_one c l with ⟨h1, h2⟩ | ⟨i, h1, h2, h3, h4⟩
  · rw [if_neg (by rw [h1]; decide), split_none c h2]; rfl
  · rw [if_pos (by rw [h1]; omega), split_hit c h3 h4, h1]; rfl
theorem split_cons (c : UInt8) : ∀ (l now : List UInt8), ∃ x r, splitGo c now l = x :: r
  | [], now => ⟨now, [], rfl⟩
  | x :: l, now => by
    unfold splitGo
    split
    · exact ⟨_, _, rfl⟩
    · exact split_cons c l _
theorem split_len (c : UInt8) : ∀ (l now : List UInt8), (splitGo c now l).length = l.count c + 1
  | [], now => rfl
  | x :: l, now => by
    unfold splitGo
    split
    · rename_i h; subst h; rw [List.length_cons, split_len, List.count_cons_self]
    · rename_i h; rw [split_len, List.count_cons_of_ne h]
theorem split_two (c : UInt8) : ∀ (l now m : List UInt8), splitGo c now (l ++ c :: m) = splitGo c now l ++ splitGo c [] m
  | [], now, m => by simp [splitGo]
  | x :: l, now, m => by
    rw [List.cons_append, splitGo, splitGo]
    split
    · rw [split_two c l [] m, List.cons_append]
    · exact split_two c l _ m
theorem split_size (c : UInt8) : ∀ (l now : List UInt8), ∀ x ∈ splitGo c now l, x.length ≤ now.length + l.length
  | [], now, x, hx => by simp [splitGo] at hx; subst hx; simp
  | y :: l, now, x, hx => by
    unfold splitGo at hx
    split at hx
    · rcases List.mem_cons.1 hx with rfl | hx
      · omega
      · have := split_size c l [] x hx; simp at this ⊢; omega
    · have := split_size c l _ x hx; simp at this ⊢; omega
/-! ### Words -/
def sepB (b : UInt8) : Bool := b == 32 || b == 9 || b == 13
def sepR (x : Nat) : Bool := x == 32 || x == 9 || x == 13
theorem sep_eq (b : UInt8) : sepB b = sepR b.toNat := by
  have h : ∀ n : Nat, n < 256 → (b == UInt8.ofNat n) = (b.toNat == n) := fun n hn => by
    rw [Bool.eq_iff_iff, beq_iff_eq, beq_iff_eq]
    constructor
    · intro e; subst e; simp [UInt8.toNat_ofNat']; omega
    · intro e; rw [← e]; simp
  unfold sepB sepR
  rw [← h 32 (by omega), ← h 9 (by omega), ← h 13 (by omega)]
  rfl
def wordsGo : List UInt8 → List UInt8 → List (List UInt8)
  | now, [] => if now = [] then [] else [now]
  | now, x :: l => if sepB x = true then (if now = [] then wordsGo [] l else now :: wordsGo [] l) else wordsGo (now ++ [x]) l
theorem wordsGo_run : ∀ (p l now : List UInt8), (∀ x ∈ p, sepB x = false) → wordsGo now (p ++ l) = wordsGo (now ++ p) l
  | [], l, now, _ => by simp
  | x :: p, l, now, h => by
    rw [List.cons_append, wordsGo, if_neg (by rw [h x (by simp)]; decide), wordsGo_run p l _ fun y hy => h y (List.mem_cons_of_mem _ hy)]
    simp
theorem words_ne : ∀ (l now : List UInt8), ∀ x ∈ wordsGo now l, x ≠ []
  | [], now, x, hx => by
    unfold wordsGo at hx
    split at hx
    · simp at hx
    · simp at hx; subst hx; assumption
  | y :: l, now, x, hx => by
    unfold wordsGo at hx
    split at hx
    · split at hx
      · exact words_ne l _ x hx
      · rcases List.mem_cons.1 hx with rfl | hx
        · assumption
        · exact words_ne l _ x hx
    · exact words_ne l _ x hx
theorem words_size : ∀ (l now : List UInt8), ∀ x ∈ wordsGo now l, x.length ≤ now.length + l.length
  | [], now, x, hx => by
    unfold wordsGo at hx
    split at hx
    · simp at hx
    · simp at hx; subst hx; simp
  | y :: l, now, x, hx => by
    unfold wordsGo at hx
    split at hx
    · split at hx
      · have := words_size l [] x hx; simp at this ⊢; omega
      · rcases List.mem_cons.1 hx with rfl | hx
        · omega
        · have := words_size l [] x hx; simp at this ⊢; omega
    · have := words_size l _ x hx; simp at this ⊢; omega
theorem words_len : ∀ (l now : List UInt8), (wordsGo now l).length ≤ l.length + 1
  | [], now => by unfold wordsGo; split <;> simp
  | y :: l, now => by
    unfold wordsGo
    split
    · split
      · have := words_len l []; simp; omega
      · have := words_len l []; simp; omega
    · have := words_len l (now ++ [y]); simp; omega
theorem rune_high (s : ByteArray) (pos : Nat) (h : pos < s.size) (ha : 128 ≤ (s[pos]'h).toNat) :
    pos + (Utf8.decode s pos).2 ≤ s.size ∧ ∀ x ∈ (s.data.toList.drop pos).take (Utf8.decode s pos).2, 128 ≤ x.toNat := by
  have hc := Lib.decodeN_conts (s.data.toList.length - pos) (s.data.toList.getD pos 0).toNat (s.data.toList.getD (pos + 1) 0).toNat (s.data.toList.getD (pos + 2) 0).toNat (s.data.toList.getD (pos + 3) 0).toNat
  rw [← Lib.decode_N] at hc
  obtain ⟨c2, c3, c4, c5⟩ := hc
  have hs := Lib.size_eq s
  refine ⟨by omega, fun x hx => ?_⟩
  obtain ⟨j, hj, e⟩ := List.mem_iff_getElem.1 hx
  have hj2 : j < (Utf8.decode s pos).2 := by rw [List.length_take] at hj; omega
  have hj3 : pos + j < s.data.toList.length := by rw [List.length_take, List.length_drop] at hj; omega
  have e2 : x = s.data.toList.getD (pos + j) 0 := by
    rw [← e, List.getElem_take, List.getElem_drop, List.getD_eq_getElem?_getD, List.getElem?_eq_getElem hj3, Option.getD_some]
  have h0 : s.data.toList.getD pos 0 = s[pos]'h := by
    rw [List.getD_eq_getElem?_getD, List.getElem?_eq_getElem (by omega), Option.getD_some]; rfl
  rw [e2]
  rcases Nat.lt_or_ge j 1 with h1 | h1
  · obtain rfl : j = 0 := by omega
    rw [Nat.add_zero, h0]; exact ha
  · rcases Nat.lt_or_ge j 2 with h2 | h2
    · obtain rfl : j = 1 := by omega
      have := (c2 (by omega)).1; omega
    · rcases Nat.lt_or_ge j 3 with h3 | h3
      · obtain rfl : j = 2 := by omega
        have := (c3 (by omega)).1; omega
      · obtain rfl : j = 3 := by omega
        have := (c4 (by omega)).1; omega
theorem spans_words (s : ByteArray) : ∀ (f pos : Nat) (st : Option Nat) (acc : List (Nat × Nat)), s.size - pos ≤ f → pos ≤ s.size → (∀ a, st = some a → a < pos) →
    ((Lib.closeSpans s (Lib.spansFromP sepR s f pos st acc)).map fun x => (s.extract x.1 x.2).data.toList) =
      (acc.map fun x => (s.extract x.1 x.2).data.toList) ++ wordsGo (Lib.openPiece s.data.toList st pos) (s.data.toList.drop pos) := by
  have ext : ∀ a b, (s.extract a b).data.toList = Lib.pieceU s.data.toList a b := fun a b => Lib.extract_data s a b
  have hs := Lib.size_eq s
  have fin : ∀ (st : Option Nat) (acc : List (Nat × Nat)) (pos : Nat), pos = s.size → (∀ a, st = some a → a < pos) →
      ((Lib.closeSpans s (acc, st)).map fun x => (s.extract x.1 x.2).data.toList) = (acc.map fun x => (s.extract x.1 x.2).data.toList) ++ wordsGo (Lib.openPiece s.data.toList st pos) (s.data.toList.drop pos) := by
    intro st acc pos hp ha
    subst hp
    rw [List.drop_eq_nil_of_le (by omega), wordsGo]
    cases st with
    | none => simp [Lib.closeSpans, Lib.openPiece]
    | some a =>
      have hne := Lib.pieceU_ne s.data.toList a s.size (ha a rfl) (by omega)
      rw [if_neg (show ¬ Lib.openPiece s.data.toList (some a) s.size = [] from hne)]
      simp [Lib.closeSpans, Lib.openPiece, Lib.pieceU]
  intro f
  induction f with
  | zero =>
    intro pos st acc hf hp ha
    exact fin st acc pos (by omega) ha
  | succ f ih =>
    intro pos st acc hf hp ha
    by_cases h : pos < s.size
    · unfold Lib.spansFromP
      rw [if_pos h]
      have hd : s.data.toList.drop pos = s[pos]'h :: s.data.toList.drop (pos + 1) := List.drop_eq_getElem_cons (by omega)
      by_cases h8 : (s[pos]'h).toNat < 128
      · have hdec := decode_ascii s pos h h8
        rw [hdec]
        simp only
        rw [hd]
        cases hsep : sepR (s[pos]'h).toNat with
        | true =>
          rw [if_pos rfl, wordsGo, if_pos (by rw [sep_eq]; exact hsep)]
          cases st with
          | none =>
            simp only
            rw [ih (pos + 1) none acc (by omega) (by omega) (by simp)]
            simp [Lib.openPiece]
          | some a =>
            have hne := Lib.pieceU_ne s.data.toList a pos (ha a rfl) (by omega)
            simp only
            rw [ih (pos + 1) none _ (by omega) (by omega) (by simp), if_neg (show ¬ Lib.openPiece s.data.toList (some a) pos = [] from hne)]
            simp [Lib.openPiece, Lib.pieceU]
        | false =>
          rw [if_neg (by decide), wordsGo, if_neg (by rw [sep_eq, hsep]; decide)]
          have hone : (s.data.toList.drop pos).take 1 = [s[pos]'h] := by rw [hd]; rfl
          cases st with
          | none =>
            simp only
            rw [ih (pos + 1) (some pos) acc (by omega) (by omega) (by intro a e; cases e; omega)]
            congr 2
            show Lib.pieceU s.data.toList pos (pos + 1) = _
            rw [← Lib.pieceU_grow _ pos pos 1 (Nat.le_refl _), hone]
            simp [Lib.pieceU, Lib.openPiece]
          | some a =>
            simp only
            rw [ih (pos + 1) (some a) acc (by omega) (by omega) (by intro b e; cases e; have := ha a rfl; omega)]
            congr 2
            show Lib.pieceU s.data.toList a (pos + 1) = Lib.pieceU s.data.toList a pos ++ _
            rw [← Lib.pieceU_grow _ a pos 1 (by have := ha a rfl; omega), hone]
      · obtain ⟨hr, hw⟩ := decode_high s pos h (by omega)
        obtain ⟨hfit, hall⟩ := rune_high s pos h (by omega)
        have hsep : sepR (Utf8.decode s pos).1 = false := by
          unfold sepR
          simp only [Bool.or_eq_false_iff, beq_eq_false_iff_ne]
          omega
        rw [if_neg (by rw [hsep]; decide)]
        have hsplit : s.data.toList.drop pos = (s.data.toList.drop pos).take (Utf8.decode s pos).2 ++ s.data.toList.drop (pos + (Utf8.decode s pos).2) := by
          rw [← List.drop_drop, List.take_append_drop]
        have hrun := wordsGo_run ((s.data.toList.drop pos).take (Utf8.decode s pos).2) (s.data.toList.drop (pos + (Utf8.decode s pos).2)) (Lib.openPiece s.data.toList st pos) (fun x hx => by
          have := hall x hx
          rw [sep_eq]
          unfold sepR
          simp only [Bool.or_eq_false_iff, beq_eq_false_iff_ne]
          omega)
        rw [← hsplit] at hrun
        rw [hrun]
        cases st with
        | none =>
          simp only
          rw [ih _ (some pos) acc (by omega) (by omega) (by intro a e; cases e; omega)]
          congr 2
          show Lib.pieceU s.data.toList pos _ = _
          rw [← Lib.pieceU_grow _ pos pos _ (Nat.le_refl _)]
          simp [Lib.pieceU, Lib.openPiece]
        | some a =>
          simp only
          rw [ih _ (some a) acc (by omega) (by omega) (by intro b e; cases e; have := ha a rfl; omega)]
          congr 2
          show Lib.pieceU s.data.toList a _ = Lib.pieceU s.data.toList a pos ++ _
          rw [← Lib.pieceU_grow _ a pos _ (by have := ha a rfl; omega)]
    · rw [Lib.spansFromP_end _ _ _ _ _ _ h]
      exact fin st acc pos (by omega) ha
/-! ### Numbers -/
def digB (b : UInt8) : Bool := decide (48 ≤ b.toNat) && decide (b.toNat ≤ 57)
def valGo : Nat → List UInt8 → Nat
  | n, [] => n
  | n, b :: l => valGo (n * 10 + (b.toNat - 48)) l
theorem val_ge : ∀ (l : List UInt8) (n : Nat), n ≤ valGo n l
  | [], n => Nat.le_refl _
  | b :: l, n => Nat.le_trans (by omega) (val_ge l _)
def badForm (l : List UInt8) : Bool := decide (l = []) || (decide (1 < l.length) && decide (l.head? = some 48))
def numE (l : List UInt8) : Nat × Int :=
  if badForm l = true ∨ l.all digB = false then (0, 15) else if valGo 0 l ≤ 4095 then (valGo 0 l, 0) else (0, 10)
theorem parse_digits : ∀ (l : List UInt8) (acc : Nat), l.all digB = true → Lib.parseUint10 acc l = .ok (valGo acc l) ∨ (Lib.parseUint10 acc l = .range ∧ 1844674407370955162 ≤ valGo acc l)
  | [], acc, _ => .inl rfl
  | b :: l, acc, h => by
    simp only [List.all_cons, Bool.and_eq_true, digB, decide_eq_true_eq] at h
    unfold Lib.parseUint10 valGo
    rw [if_pos h.1]
    have hv := val_ge l (acc * 10 + (b.toNat - 48))
    split
    · exact .inr ⟨rfl, by omega⟩
    · split
      · exact .inr ⟨rfl, by omega⟩
      · exact parse_digits l _ h.2
theorem atoi_digits {l : List UInt8} (h : l.all digB = true) (h0 : l ≠ []) : Lib.atoiAll l = .ok (valGo 0 l) ∨ (Lib.atoiAll l = .range ∧ 4095 < valGo 0 l) := by
  cases l with
  | nil => exact absurd rfl h0
  | cons c r =>
    have hc : 48 ≤ c.toNat ∧ c.toNat ≤ 57 := by simp only [List.all_cons, Bool.and_eq_true, digB, decide_eq_true_eq] at h; exact h.1
    have hn : ¬ (c.toNat = 43 ∨ c.toNat = 45) := by omega
    have hn2 : ¬ c.toNat = 45 := by omega
    unfold Lib.atoiAll
    simp only [if_neg hn, Lib.parseMag, if_neg (List.cons_ne_nil c r)]
    rcases parse_digits (c :: r) 0 h with e | ⟨e, hv⟩
    · rw [e]
      simp only
      by_cases hb : 9223372036854775808 ≤ valGo 0 (c :: r)
      · exact .inr ⟨by rw [if_pos ⟨hn2, hb⟩], by omega⟩
      · exact .inl (by rw [if_neg (fun q => hb q.2), if_neg (fun q => hn2 q.1), if_neg hn2])
    · rw [e]; exact .inr ⟨rfl, by omega⟩
def capGo : Nat → List UInt8 → Nat
  | n, [] => n
  | n, b :: l => capGo (min 9999 (n * 10 + (b.toNat - 48))) l
/-! ### Lines -/
structure DoE where
  what : Int
  a : Int
  b : Int
def kindE (w : List UInt8) : Nat :=
  if w = [115, 116, 101, 112] then 0 else if w = [100, 101, 108, 105, 118, 101, 114] then 1 else if w = [114, 111, 117, 110, 100] then 2 else if w = [99, 97, 110, 99, 101, 108] then 3 else 4
def manyE (k : Nat) : Nat := if k = 1 then 2 else if k = 2 then 0 else 1
def numsE (l : List (List UInt8)) : Int := if l.any (fun w => (numE w).2 == 15) then 15 else if l.any (fun w => (numE w).2 == 10) then 10 else 0
def xB (f : List (List UInt8)) : Bool := match f.getLast? with | some t => decide (t.head? = some 120) | none => false
def toldL (f : List (List UInt8)) : List (List UInt8) := if xB f = true then f.dropLast else f
def timesW (f : List (List UInt8)) : List UInt8 := if xB f = true then (f.getLast?.getD []).tail else [49]
def nthE (l : List (List UInt8)) (i : Nat) : Int := match l[i]? with | some w => (numE w).1 | none => 0
def lineE : List (List UInt8) → DoE × Nat × Int
  | [] => (⟨0, 0, 0⟩, 0, 0)
  | w :: f =>
    if kindE w = 4 ∨ (toldL f).length ≠ manyE (kindE w) then (⟨0, 0, 0⟩, 0, 15)
    else if numsE (timesW f :: toldL f) ≠ 0 then (⟨0, 0, 0⟩, 0, numsE (timesW f :: toldL f))
    else if (numE (timesW f)).1 = 0 then (⟨0, 0, 0⟩, 0, 10)
    else (⟨kindE w, nthE (toldL f) 0, nthE (toldL f) 1⟩, (numE (timesW f)).1, 0)
def wordsOf (l : List UInt8) : List (List UInt8) := wordsGo [] ((splitGo 35 [] l).headD [])
def parseE : List (List UInt8) → Nat → List DoE → List DoE × Nat × Int
  | [], _, acc => (acc, 0, 0)
  | s :: r, i, acc =>
    if (lineE (wordsOf s)).2.2 ≠ 0 then ([], i + 1, (lineE (wordsOf s)).2.2)
    else if 4096 < acc.length + (lineE (wordsOf s)).2.1 then ([], i + 1, 11)
    else parseE r (i + 1) (acc ++ List.replicate (lineE (wordsOf s)).2.1 (lineE (wordsOf s)).1)
def parseT (l : List UInt8) : List DoE × Nat × Int := if 65536 < l.length then ([], 0, 11) else parseE (splitGo 10 [] l) 0 []
theorem numE_le (l : List UInt8) : (numE l).1 ≤ 4095 := by
  unfold numE
  split
  · simp
  · split <;> simp <;> omega
theorem numE_err (l : List UInt8) : (numE l).2 = 0 ∨ (numE l).2 = 10 ∨ (numE l).2 = 15 := by
  unfold numE
  split
  · simp
  · split <;> simp
theorem line_times (l : List (List UInt8)) : (lineE l).2.1 ≤ 4095 := by
  unfold lineE
  split
  · simp
  · split
    · simp
    · split
      · simp
      · split
        · simp
        · exact numE_le _
theorem parse_ok_len : ∀ (ls : List (List UInt8)) (i : Nat) (acc : List DoE), acc.length ≤ 4096 → (parseE ls i acc).1.length ≤ 4096
  | [], i, acc, h => h
  | s :: r, i, acc, h => by
    unfold parseE
    split
    · simp
    · split
      · simp
      · exact parse_ok_len r _ _ (by simp; omega)
theorem parse_bad {s : List UInt8} (h : (lineE (wordsOf s)).2.2 ≠ 0) (r : List (List UInt8)) (i : Nat) (acc : List DoE) : parseE (s :: r) i acc = ([], i + 1, (lineE (wordsOf s)).2.2) := by rw [parseE, if_pos h]
theorem parse_full {s : List UInt8} (h : (lineE (wordsOf s)).2.2 = 0) {acc : List DoE} (h2 : 4096 < acc.length + (lineE (wordsOf s)).2.1) (r : List (List UInt8)) (i : Nat) : parseE (s :: r) i acc = ([], i + 1, 11) := by rw [parseE, if_neg (fun q => q h), if_pos h2]
theorem parse_next {s : List UInt8} (h : (lineE (wordsOf s)).2.2 = 0) {acc : List DoE} (h2 : ¬ 4096 < acc.length + (lineE (wordsOf s)).2.1) (r : List (List UInt8)) (i : Nat) : parseE (s :: r) i acc = parseE r (i + 1) (acc ++ List.replicate (lineE (wordsOf s)).2.1 (lineE (wordsOf s)).1) := by rw [parseE, if_neg (fun q => q h), if_neg h2]
theorem parse_append : ∀ (ls ms : List (List UInt8)) (i : Nat) (acc : List DoE),
    parseE (ls ++ ms) i acc = if (parseE ls i acc).2.2 = 0 then parseE ms (i + ls.length) (parseE ls i acc).1 else parseE ls i acc
  | [], ms, i, acc => by simp [parseE]
  | s :: r, ms, i, acc => by
    rw [List.cons_append]
    by_cases h1 : (lineE (wordsOf s)).2.2 = 0
    · by_cases h2 : 4096 < acc.length + (lineE (wordsOf s)).2.1
      · rw [parse_full h1 h2, parse_full h1 h2]; rfl
      · rw [parse_next h1 h2, parse_next h1 h2, parse_append r ms, List.length_cons, show i + 1 + r.length = i + (r.length + 1) by omega]
    · rw [parse_bad h1, parse_bad h1, if_neg h1]
theorem parse_wrong : ∀ (ls : List (List UInt8)) (i : Nat) (acc : List DoE), (parseE ls i acc).2.2 ≠ 0 → (parseE ls i acc).1 = [] ∧ i < (parseE ls i acc).2.1 ∧ (parseE ls i acc).2.1 ≤ i + ls.length
  | [], i, acc, h => absurd rfl h
  | s :: r, i, acc, h => by
    by_cases h1 : (lineE (wordsOf s)).2.2 = 0
    · by_cases h2 : 4096 < acc.length + (lineE (wordsOf s)).2.1
      · rw [parse_full h1 h2]; exact ⟨rfl, by simp, by simp⟩
      · rw [parse_next h1 h2] at h ⊢
        obtain ⟨a, b, c⟩ := parse_wrong r _ _ h
        exact ⟨a, by omega, by simp; omega⟩
    · rw [parse_bad h1]; exact ⟨rfl, by simp, by simp⟩
theorem parse_right : ∀ (ls : List (List UInt8)) (i : Nat) (acc : List DoE), (parseE ls i acc).2.2 = 0 → (parseE ls i acc).2.1 = 0
  | [], i, acc, h => rfl
  | s :: r, i, acc, h => by
    by_cases h1 : (lineE (wordsOf s)).2.2 = 0
    · by_cases h2 : 4096 < acc.length + (lineE (wordsOf s)).2.1
      · rw [parse_full h1 h2] at h; exact absurd h (by simp)
      · rw [parse_next h1 h2] at h ⊢
        exact parse_right r _ _ h
    · rw [parse_bad h1] at h; exact absurd h h1
theorem parse_ahead : ∀ (ls : List (List UInt8)) (i j : Nat) (acc pre : List DoE),
    ((parseE ls i acc).2.2 = 0 → (parseE ls j (pre ++ acc)).2.2 = 0 ∧ (parseE ls j (pre ++ acc)).1 = pre ++ (parseE ls i acc).1 ∨ (parseE ls j (pre ++ acc)).2.2 = 11 ∧ 4096 < pre.length + (parseE ls i acc).1.length) ∧
    ((parseE ls i acc).2.2 ≠ 0 → ((parseE ls j (pre ++ acc)).2.2 = (parseE ls i acc).2.2 ∧ (parseE ls j (pre ++ acc)).2.1 + i = (parseE ls i acc).2.1 + j) ∨ ((parseE ls j (pre ++ acc)).2.2 = 11 ∧ (parseE ls j (pre ++ acc)).2.1 + i ≤ (parseE ls i acc).2.1 + j)) ∧
    acc.length ≤ ((parseE ls i acc).1.length + if (parseE ls i acc).2.2 = 0 then 0 else acc.length)
  | [], i, j, acc, pre => ⟨fun _ => .inl ⟨rfl, rfl⟩, fun h => absurd rfl h, by simp [parseE]⟩
  | s :: r, i, j, acc, pre => by
    by_cases h1 : (lineE (wordsOf s)).2.2 = 0
    · by_cases h2 : 4096 < acc.length + (lineE (wordsOf s)).2.1
      · have e1 : parseE (s :: r) i acc = ([], i + 1, 11) := by rw [parseE, if_neg (fun q => q h1), if_pos h2]
        have e2 : parseE (s :: r) j (pre ++ acc) = ([], j + 1, 11) := by rw [parseE, if_neg (fun q => q h1), if_pos (by simp; omega)]
        rw [e1, e2]
        exact ⟨fun h => absurd h (by simp), fun _ => .inl ⟨rfl, by simp; omega⟩, by simp⟩
      · have e1 : parseE (s :: r) i acc = parseE r (i + 1) (acc ++ List.replicate (lineE (wordsOf s)).2.1 (lineE (wordsOf s)).1) := by rw [parseE, if_neg (fun q => q h1), if_neg h2]
        obtain ⟨g1, g2, g3⟩ := parse_ahead r (i + 1) (j + 1) (acc ++ List.replicate (lineE (wordsOf s)).2.1 (lineE (wordsOf s)).1) pre
        by_cases h3 : 4096 < (pre ++ acc).length + (lineE (wordsOf s)).2.1
        · have e2 : parseE (s :: r) j (pre ++ acc) = ([], j + 1, 11) := by rw [parseE, if_neg (fun q => q h1), if_pos h3]
          rw [e1, e2]
          refine ⟨fun h => .inr ⟨rfl, ?_⟩, fun h => .inr ⟨rfl, ?_⟩, ?_⟩
          · rw [if_pos h] at g3; simp at g3 h3; omega
          · have := (parse_wrong r _ _ h).2.1; simp only; omega
          · split
            · rename_i hq; rw [if_pos hq] at g3; simp at g3; omega
            · omega
        · have e2 : parseE (s :: r) j (pre ++ acc) = parseE r (j + 1) (pre ++ (acc ++ List.replicate (lineE (wordsOf s)).2.1 (lineE (wordsOf s)).1)) := by rw [parseE, if_neg (fun q => q h1), if_neg h3, List.append_assoc]
          rw [e1, e2]
          refine ⟨g1, fun h => ?_, ?_⟩
          · rcases g2 h with ⟨a, b⟩ | ⟨a, b⟩
            · exact .inl ⟨a, by omega⟩
            · exact .inr ⟨a, by omega⟩
          · split
            · rename_i hq; rw [if_pos hq] at g3; simp at g3; omega
            · omega
    · have e1 : parseE (s :: r) i acc = ([], i + 1, (lineE (wordsOf s)).2.2) := by rw [parseE, if_pos h1]
      have e2 : parseE (s :: r) j (pre ++ acc) = ([], j + 1, (lineE (wordsOf s)).2.2) := by rw [parseE, if_pos h1]
      rw [e1, e2]
      exact ⟨fun h => absurd h h1, fun _ => .inl ⟨rfl, by simp; omega⟩, by simp [h1]⟩
end Go.Proofs.YtkcnbejpmknaoaaDoor

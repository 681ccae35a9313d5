import Derived.Test.YtnkngclfbmcmhaaW9
import Derived.Deep.OwnRows
namespace Go.Proofs.Ytnkngclfbmcmhaa
open Go.RowKit Reg Mem

/-- A slice reads as these keys. -/
def KeysAt (w : World) (sv : Value) (l : List Key) : Prop := ∃ a c, sv = .slice a l.length c ∧ ∀ (i : Nat) k, l[i]? = some k → ∃ R o, a = some ⟨R, o, none⟩ ∧ ∀ j u, k.cells[j]? = some u → w.cell? ⟨R, o + i * 4 + j, none⟩ = some u
def PushRel (l : List Key) (Ba Bb : Nat) (w : World) (n i : Value) (wr : World) : Prop :=
  ∃ (k : Nat) (s : List Row) (Fa Fb : Nat → Prop), n = .int .i64 s.length ∧ i = .int .i64 k ∧ k ≤ l.length ∧ HS w.heap.size Fa wr Ba s ∧ HS w.heap.size Fb wr Bb s ∧ (∀ x, Fa x → ¬ Fb x) ∧ Below w.heap.size w wr ∧
    (∀ r ∈ s, ∃ j : Nat, j < k ∧ r.v = j ∧ l[j]? = some r.key) ∧ s.length ≤ k
def boolE (x : Bool) : Value := .bool x
theorem set_bools (bs : List Bool) (j : Nat) (x : Bool) : (bs.map boolE).toArray.setIfInBounds j (.bool x) = ((bs.set j x).map boolE).toArray := by
  simp [List.map_set, boolE]
theorem sorted_lt {s : List Row} (h : Sorted s) {i j : Nat} {p r : Row} (hij : i < j) (hp : s[i]? = some p) (hr : s[j]? = some r) : Row.lt p r := by
  obtain ⟨h1, h2⟩ := List.getElem?_eq_some_iff.1 hp
  obtain ⟨h3, h4⟩ := List.getElem?_eq_some_iff.1 hr
  have := List.pairwise_iff_getElem.1 h i j h1 h3 hij
  rw [h2, h4] at this
  exact this
theorem take_ne {s : List Row} (h : Sorted s) {k : Nat} {r : Row} (hr : s[k]? = some r) : ∀ r' ∈ s.take k, r.key ≠ r'.key := by
  intro r' hr'
  obtain ⟨i, hi, he⟩ := List.mem_iff_getElem.1 hr'
  rw [List.length_take] at hi
  have : s[i]? = some r' := by
    rw [← he, List.getElem_take, List.getElem?_eq_getElem (by omega)]
  exact fun e => Row.lt_ne (sorted_lt h (by omega) this hr) e.symm
theorem take_snoc {s : List Row} {k : Nat} {r : Row} (hr : s[k]? = some r) : s.take (k + 1) = s.take k ++ [r] := by
  obtain ⟨h1, h2⟩ := List.getElem?_eq_some_iff.1 hr
  rw [← h2]
  exact (List.take_append_getElem h1).symm
def PopRel (lo : Nat) (l : List Key) (Ba Bb b9 : Nat) (s : List Row) (Fa Fb : Nat → Prop) (w : World) (all i u : Value) (wr : World) : Prop :=
  ∃ (k : Nat) (bs : List Bool) (kk : Key), i = .int .i64 k ∧ (k = 0 → u = undef) ∧ k ≤ s.length ∧ HS lo Fa wr Ba (s.drop k) ∧ HS lo Fb wr Bb s ∧ Owns 3 intE 1 (b9 + 2) wr all ((s.take k).map (·.v)) ∧
    wr.heap[b9]? = some (.cells (bs.map boolE).toArray 4 (0, 0)) ∧ bs.length = l.length ∧ (∀ j : Nat, bs[j]? = some true → ∃ r ∈ s.take k, r.v = j) ∧
    wr.heap[b9 + 1]? = some (.cells #[.int .i64 kk.at_, .int .i64 kk.src, .int .i64 kk.sent, .int .i64 kk.no] 29 (0, 0)) ∧ (0 < k → ∀ r, s[k - 1]? = some r → kk = r.key) ∧ Below w.heap.size w wr
theorem chain_keep (W : World) (b9 b10 j : Nat) (a b c d : Int) : Keep (fun x => x = b9 ∨ x = b10) W (((((W.setCell ⟨b9, j, none⟩ (.bool true)).setCell ⟨b10, 0, none⟩ (.int .i64 a)).setCell ⟨b10, 1, none⟩ (.int .i64 b)).setCell ⟨b10, 2, none⟩ (.int .i64 c)).setCell ⟨b10, 3, none⟩ (.int .i64 d)) :=
  (((((Keep.refl _ W).setCell (p := ⟨b9, j, none⟩) (.inl (.inl rfl)) _).setCell (p := ⟨b10, 0, none⟩) (.inl (.inr rfl)) _).setCell (p := ⟨b10, 1, none⟩) (.inl (.inr rfl)) _).setCell (p := ⟨b10, 2, none⟩) (.inl (.inr rfl)) _).setCell (p := ⟨b10, 3, none⟩) (.inl (.inr rfl)) _
theorem tail_facts {W V w6 : World} {b9 b10 j : Nat} {bs : List Bool} {kk : Key} {a b c d : Int} {S : Nat → Prop} (h9 : W.heap[b9]? = some (.cells (bs.map boolE).toArray 4 (0, 0)))
    (h10 : W.heap[b10]? = some (.cells #[.int .i64 kk.at_, .int .i64 kk.src, .int .i64 kk.sent, .int .i64 kk.no] 29 (0, 0))) (hne : b9 ≠ b10)
    (hV : Keep (fun _ => False) (((((W.setCell ⟨b9, j, none⟩ (.bool true)).setCell ⟨b10, 0, none⟩ (.int .i64 a)).setCell ⟨b10, 1, none⟩ (.int .i64 b)).setCell ⟨b10, 2, none⟩ (.int .i64 c)).setCell ⟨b10, 3, none⟩ (.int .i64 d)) V) (hK : Keep S V w6) (n9 : ¬ S b9) (n10 : ¬ S b10) :
    w6.heap[b9]? = some (.cells ((bs.set j true).map boolE).toArray 4 (0, 0)) ∧ w6.heap[b10]? = some (.cells #[.int .i64 a, .int .i64 b, .int .i64 c, .int .i64 d] 29 (0, 0)) ∧ Keep (fun x => x = b9 ∨ x = b10 ∨ S x) W w6 := by
  have n : ∀ o, b9 ≠ (⟨b10, o, none⟩ : Addr).block := fun o e => hne e
  refine ⟨hK.heap (hV.heap ?_ id) n9, hK.heap (hV.heap ?_ id) n10, ?_⟩
  · rw [Below.heap_setCell _ _ _ _ (n 3), Below.heap_setCell _ _ _ _ (n 2), Below.heap_setCell _ _ _ _ (n 1), Below.heap_setCell _ _ _ _ (n 0), set_heap h9, set_bools]
  · have h0 : (W.setCell ⟨b9, j, none⟩ (.bool true)).heap[b10]? = some (.cells #[.int .i64 kk.at_, .int .i64 kk.src, .int .i64 kk.sent, .int .i64 kk.no] 29 (0, 0)) := by rw [Below.heap_setCell _ _ _ _ (fun e => hne e.symm)]; exact h10
    exact set_heap (set_heap (set_heap (set_heap h0)))
  · exact ((chain_keep W b9 b10 j a b c d).trans hV (U := fun x => x = b9 ∨ x = b10) (fun y _ h => ⟨h, id⟩)).trans hK (fun y _ h => ⟨fun e => h (e.elim .inl (fun e => .inr (.inl e))), fun e => h (.inr (.inr e))⟩)
/-- The relation behind a round. -/
theorem pop_next {lo : Nat} {l : List Key} {Ba Bb b9 j k : Nat} {s : List Row} {Fa Fb : Nat → Prop} {w W V w6 : World} {bs : List Bool} {kk : Key} {a b c d : Int} {all all' u : Value}
    (hA : HS lo Fa W Ba (s.drop (k + 1))) (hB : HS lo Fb W Bb s) (hO : Owns 3 intE 1 (b9 + 2) W all ((s.take k).map (·.v))) (hFa : ∀ x, Fa x → x < b9) (hFb : ∀ x, Fb x → x < b9) (hlo9 : w.heap.size ≤ b9)
    (hb : Below w.heap.size w W) (h9 : W.heap[b9]? = some (.cells (bs.map boolE).toArray 4 (0, 0))) (h10 : W.heap[b9 + 1]? = some (.cells #[.int .i64 kk.at_, .int .i64 kk.src, .int .i64 kk.sent, .int .i64 kk.no] 29 (0, 0)))
    (hV : Keep (fun _ => False) (((((W.setCell ⟨b9, j, none⟩ (.bool true)).setCell ⟨b9 + 1, 0, none⟩ (.int .i64 a)).setCell ⟨b9 + 1, 1, none⟩ (.int .i64 b)).setCell ⟨b9 + 1, 2, none⟩ (.int .i64 c)).setCell ⟨b9 + 1, 3, none⟩ (.int .i64 d)) V) (hK : Keep (fun x => all.ownBlock = some x) V w6) (hO6 : Owns 3 intE 1 (b9 + 2) w6 all' ((s.take k).map (·.v) ++ [(j : Int)]))
    (hr : s[k]? = some ⟨⟨a, b, c, d⟩, j⟩) (hbl : bs.length = l.length) (hSB : ∀ j : Nat, bs[j]? = some true → ∃ r ∈ s.take k, r.v = j) : PopRel lo l Ba Bb b9 s Fa Fb w all' (.int .i64 ((k + 1 : Nat) : Int)) u w6 := by
  have hob := own_bound hO
  obtain ⟨g9, g10, hK6⟩ := tail_facts h9 h10 (by omega) hV hK (fun e => by have := (hob _ e).2; omega) (fun e => by have := (hob _ e).2; omega)
  have hsn := take_snoc hr
  refine ⟨k + 1, bs.set j true, ⟨a, b, c, d⟩, rfl, fun h => by omega, by have := (List.getElem?_eq_some_iff.1 hr).1; omega, hA.keep hK6 (fun x hx e => ?_), hB.keep hK6 (fun x hx e => ?_), ?_, g9, by rw [List.length_set]; exact hbl, fun j' hj => ?_, g10, fun _ r h => ?_, below_keep hb hK6 (fun x e => ?_)⟩
  · have h1 := hFa x hx
    rcases e with e | e | e
    · omega
    · omega
    · have := (hob _ e).2; omega
  · have h1 := hFb x hx
    rcases e with e | e | e
    · omega
    · omega
    · have := (hob _ e).2; omega
  · rw [hsn, List.map_append]; exact hO6
  · rw [hsn]
    rw [List.getElem?_set] at hj
    by_cases e : j = j'
    · subst e
      exact ⟨_, List.mem_append_right _ (List.mem_singleton.2 rfl), rfl⟩
    · rw [if_neg e] at hj
      obtain ⟨r, h1, h2⟩ := hSB j' hj
      exact ⟨r, List.mem_append_left _ h1, h2⟩
  · rw [Nat.add_sub_cancel, hr] at h; cases h; rfl
  · rcases e with e | e | e
    · omega
    · omega
    · have := (hob _ e).2; omega
theorem made_bools (n : Nat) : madeCells #[.bool false] n = ((List.replicate n false).map boolE).toArray := by
  unfold madeCells
  apply Array.ext
  · simp
  · intro i h1 h2
    simp [boolE, Nat.mod_one]
end Go.Proofs.Ytnkngclfbmcmhaa

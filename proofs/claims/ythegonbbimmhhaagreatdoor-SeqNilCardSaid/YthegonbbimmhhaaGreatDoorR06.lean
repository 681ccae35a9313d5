import Derived.Test.YthegonbbimmhhaaGreatDoorTie
import Derived.Test.YthegonbbimmhhaaGreatDoorCards
import Derived.Test.YthegonbbimmhhaaGreatDoorR01
import Derived.Test.YthegonbbimmhhaaGreatDoorR04
import Derived.Test.YthegonbbimmhhaaGreatDoorR05
import Derived.MakeChecks
import Derived.LaidMore
import Derived.Stop.Joined
import Derived.SevenTiedAt
import Derived.Sort.Statements
import Derived.Test.YthegonbbimmhhaaGreatDoorR07
import Derived.Deep.LoopGhost
/- The table of ops, as the row's condition has it; and that the program's own door meets the condition. -/
namespace Go.Proofs.YthegonbbimmhhaaGreatDoor
open Go Go.ChangeShapes Go.WideShapes Go.ChangeAt Go.RowKit Mem

def tabLaid : List (String × DataW Unit) := [("boomerang/code.table", Rows.laid_boomerang_code_table)]
theorem door_met (os : Os) (args : Array Value) : laidMetH Tryz.prog tabLaid ((World.doorLaid Tryz.prog 59 os).forCall (fun _ _ => 0) ⟨#[], args, []⟩).memory :=
  laidMetH_of_parts3 (fuel := 8) (laidMet_of_run' 8 (by kernel_rfl) (by kernel_rfl)) (by kernel_rfl) (by kernel_rfl)
theorem gTable : Tryz.prog.globalNamed "boomerang/code.table" = some 0 := by kernel_rfl
theorem tTable : (Tryz.prog.globals[0]?).map (·.type) = some 216 := by kernel_rfl
theorem lay_some {P : Program} {t : TypeId} (h : (lay P 100 t).isSome = true) (h2 : P.cellsOf t = ((lay P 100 t).getD []).length) : ∃ ks, lay P 100 t = some ks ∧ P.cellsOf t = ks.length := by
  obtain ⟨ks, hk⟩ := Option.isSome_iff_exists.1 h
  exact ⟨ks, hk, by rw [h2, hk]; rfl⟩
set_option maxRecDepth 100000 in
theorem tab_of_laid {W : World} (h : laidMetH Tryz.prog tabLaid W) : Tab.at_ W (fun b => b = 0) := by
  rw [MakeChecks.laidMetH_plain _ _ _ (by kernel_rfl)] at h
  obtain ⟨ps, ⟨g0, t0, cs0, f0, p0, q0, hg0, ht0, hv0, hd0, _⟩, _⟩ := h
  obtain rfl := Option.some.inj (gTable.symm.trans hg0)
  obtain rfl := Option.some.inj (tTable.symm.trans ht0)
  obtain ⟨ks, hk, hc⟩ := lay_some (P := Tryz.prog) (t := 216) (by kernel_rfl) (by kernel_rfl)
  have e := trod_cells 100 216 ks hk hc _ _ _ hd0
  have e2 : cellsD 100 (Rows.laid_boomerang_code_table : DataW Unit) = flatE About.cells table := by kernel_rfl
  have e3 : cs0.toList = flatE About.cells table := e.trans e2
  have hcell : ∀ i, W.cell? ⟨0, i, none⟩ = (flatE About.cells table)[i]? := fun i => by
    rw [World.var?_cell gTable hv0 i, ← e3, Array.getElem?_toList]
  have acells : ∀ x : About, x.cells.length = 6 := fun _ => rfl
  refine ⟨⟨some ⟨0, 0, none⟩, 16, rfl, by rw [table_len]; exact Nat.le_refl _, (fun h => by cases h), fun i x hi => ⟨0, 0, rfl, rfl, fun j u hj => ?_⟩⟩, fun b hb => ?_⟩
  · have hj6 : j < 6 := by rw [← acells x]; exact (List.getElem?_eq_some_iff.1 hj).1
    rw [hcell, Nat.zero_add, flatE_get acells hi j hj6]
    exact hj
  · subst hb
    have h0 := hcell 0
    cases hz : W.heap[0]? with
    | none => exfalso; simp only [World.cell?, hz] at h0; exact absurd h0 (by rw [flatE_get acells (i := 0) (x := table[0]) rfl 0 (by decide)]; simp [About.cells])
    | some o => exact (Array.getElem?_eq_some_iff.1 hz).1
end Go.Proofs.YthegonbbimmhhaaGreatDoor
/- Two things that are owned, as one; a new model out of its parts. -/
namespace Go.Proofs.YthegonbbimmhhaaGreatDoor
open Go Go.RowKit Mem

theorem loc_of {A : Asn} {w w' : World} {F F1 : Nat → Prop} (h : A.at_ w F1) (hF : ∀ b, F1 b → F b) (hb : ∀ b, F b → w'.heap[b]? = w.heap[b]?) : A.at_ w' F1 := A.loc h fun b h => hb b (hF b h)
def Both (A B : Asn) : Asn where
  sh := false
  at_ w F := ∃ F1 F2, A.at_ w F1 ∧ B.at_ w F2 ∧ ∀ b, F b ↔ F1 b ∨ F2 b
  loc h hb := let ⟨F1, F2, h1, h2, h3⟩ := h; ⟨F1, F2, loc_of h1 (fun b h => (h3 b).2 (.inl h)) hb, loc_of h2 (fun b h => (h3 b).2 (.inr h)) hb, h3⟩
  lt h b hb := let ⟨_, _, h1, h2, h3⟩ := h; ((h3 b).1 hb).elim (A.lt h1 b) (B.lt h2 b)
section
variable {G : Nat → Prop} {w0 w : World} {L : List Asn} {A B : Asn}
theorem Mem.St.both (S : St G w0 w (A :: B :: L)) (hA : A.sh = false) (hB : B.sh = false) : St G w0 w (Both A B :: L) :=
  S.merge _ hA hB rfl fun F F' h h' => ⟨F, F', h, h', fun _ => Iff.rfl⟩
/-- A new model out of its parts. -/
theorem Mem.St.modNew {T : TypeId} {R : Nat} {vP vL vS : Value} {hs : List Value} {ps : List (List Instr)} {ls : List Place} {ss : List Start} {fin fuel fan : Int}
    (S : St G w0 w (Blk false R #[vP, vL, vS, .int .i64 fin, .int .i64 fuel, .int .i64 fan] T :: Sl false vcell 1 vP hs :: Sl false Place.cells 5 vL ls :: Sl false Start.cells 4 vS ss :: Sls false Instr.cells 5 hs ps :: L)) :
    St G w0 w (ModA false T R [vP, vL, vS, .int .i64 fin, .int .i64 fuel, .int .i64 fan] hs ⟨ps, ls, ss, fin, fuel, fan⟩ :: L) := by
  have S1 := (((S.both rfl rfl).both rfl rfl).both rfl rfl).both rfl rfl
  have := S1.weak (i := 0) (A' := ModA false T R [vP, vL, vS, .int .i64 fin, .int .i64 fuel, .int .i64 fan] hs ⟨ps, ls, ss, fin, fuel, fan⟩) rfl (fun _ => rfl) fun F h => ?_
  · simpa using this
  · obtain ⟨F1, F2, ⟨F3, F4, ⟨F5, F6, ⟨F7, F8, h1, h2, e4⟩, h3, e3⟩, h4, e2⟩, h5, e1⟩ := h
    have i1 : ∀ b, F7 b → F b := fun b h => (e1 b).2 (.inl ((e2 b).2 (.inl ((e3 b).2 (.inl ((e4 b).2 (.inl h)))))))
    have i2 : ∀ b, F8 b → F b := fun b h => (e1 b).2 (.inl ((e2 b).2 (.inl ((e3 b).2 (.inl ((e4 b).2 (.inr h)))))))
    have i3 : ∀ b, F6 b → F b := fun b h => (e1 b).2 (.inl ((e2 b).2 (.inl ((e3 b).2 (.inr h)))))
    have i4 : ∀ b, F4 b → F b := fun b h => (e1 b).2 (.inl ((e2 b).2 (.inr h)))
    have i5 : ∀ b, F2 b → F b := fun b h => (e1 b).2 (.inr h)
    refine ⟨F, fun _ h => h, ⟨⟨h1.1, i1 R ((h1.2 R).2 rfl), ⟨⟨vP, vL, vS, rfl, h2.1.mono i2, h3.1.mono i3, h4.1.mono i4⟩, h5.1.mono i5⟩⟩, fun b hb => ?_⟩⟩
    rcases (e1 b).1 hb with h | h
    · rcases (e2 b).1 h with h | h
      · rcases (e3 b).1 h with h | h
        · rcases (e4 b).1 h with h | h
          · exact (Blk false R _ T).lt h1 b h
          · exact h2.2 b h
        · exact h3.2 b h
      · exact h4.2 b h
    · exact h5.2 b h
end
theorem firstE_mem (l : List Int) : firstE l = 0 ∨ firstE l ∈ l := by
  induction l with
  | nil => simp [firstE]
  | cons x l ih => by_cases h : x = 0 <;> simp [firstE, h]; exact ih.elim .inl fun h => .inr h
theorem hset {l m : List Value} {x y : Value} {k : Nat} (h : k = l.length) : (l ++ x :: m).set k y = (l ++ [y]) ++ m := by subst h; simp
end Go.Proofs.YthegonbbimmhhaaGreatDoor
/- Opening a configuration that came in. -/
namespace Go.Proofs.YthegonbbimmhhaaGreatDoor
open Go Go.ChangeShapes Go.WideShapes Go.ChangeAt Go.RowKit Mem

abbrev i5 : List TypeDesc := [.int .i64, .int .i64, .int .i64, .int .i64, .int .i64]
section
variable {H : Type} {enc : TypeId × Value → H} {w : World} {base : Nat} {spare : Nat → Bool} {held : Bool}
/-- How long things that came in may be. -/
structure Wide (c : Cfg) : Prop where
  p : c.programs.length ≤ maxLen
  q : ∀ x ∈ c.programs, x.length ≤ maxLen
  l : c.lps.length ≤ maxLen
  s : c.starts.length ≤ maxLen
end
end Go.Proofs.YthegonbbimmhhaaGreatDoor
/- One thing of a state is lent to a call, which hands another one back in its place. Over any program. -/
namespace Go.Proofs.YthegonbbimmhhaaGreatDoor.Mem
open Go Go.RowKit

section
variable {G : Nat → Prop} {w0 w w' : World} {L : List Asn} {A A' : Asn} {i : Nat}
theorem St.stepAt (S : St G w0 w L) (hi : L[i]? = some A) (ho : A.sh = false) : ∃ F, A.at_ w F ∧ ∀ w' A', (∃ F', Keep F w w' ∧ A'.at_ w' F' ∧ ∀ b, F' b → F b ∨ w.heap.size ≤ b) → St G w0 w' (L.set i A') := by
  obtain ⟨Fs, hf, hd⟩ := S.ex
  refine ⟨Fs i, (hf i A hi).1, fun w' A' ⟨F', hK, hA', hF'⟩ => ?_⟩
  have hil := (List.getElem?_eq_some_iff.1 hi).1
  have hnew : ∀ b, F' b → Fs i b ∨ w.heap.size ≤ b := hF'
  have apart : ∀ j B, j ≠ i → L[j]? = some B → ∀ b, Fs j b → ¬ Fs i b := by
    intro j B hj hB b hb hb'
    rcases Nat.lt_or_gt_of_ne hj with h | h
    · rcases hd j i B A h hB hi with ⟨_, e⟩ | e
      · rw [ho] at e; cases e
      · exact e b hb hb'
    · rcases hd i j A B h hi hB with ⟨e, _⟩ | e
      · rw [ho] at e; cases e
      · exact e b hb' hb
  refine ⟨S.keep.trans hK (fun x hx hn => ⟨hn, fun hb => ?_⟩), fun j => if j = i then F' else Fs j, fun j B hj => ?_, fun j k B C hjk hj hk => ?_⟩
  · rcases (hf i A hi).2 ho x hb with h | h
    · exact hn h
    · omega
  · by_cases e : j = i
    · subst e
      rw [List.getElem?_set_self hil] at hj
      cases hj
      simp only [if_true]
      refine ⟨hA', fun _ b hb => ?_⟩
      rcases hnew b hb with h | h
      · exact (hf j A hi).2 ho b h
      · exact .inr (Nat.le_trans S.size h)
    · rw [List.getElem?_set_ne (Ne.symm e)] at hj
      simp only [if_neg e]
      exact ⟨B.loc (hf j B hj).1 (fun b hb => hK.block b (B.lt (hf j B hj).1 b hb) (apart j B e hj b hb)), (hf j B hj).2⟩
  · by_cases e : j = i
    · subst e
      have e' : k ≠ j := by omega
      rw [List.getElem?_set_ne (Ne.symm e')] at hk
      simp only [if_true, if_neg e']
      refine .inr fun b hb hb' => ?_
      rcases hnew b hb with h | h
      · exact apart k C e' hk b hb' h
      · have := C.lt (hf k C hk).1 b hb'; omega
    · rw [List.getElem?_set_ne (Ne.symm e)] at hj
      by_cases e' : k = i
      · subst e'
        simp only [if_true, if_neg e]
        refine .inr fun b hb hb' => ?_
        rcases hnew b hb' with h | h
        · exact apart j B e hj b hb h
        · have := B.lt (hf j B hj).1 b hb; omega
      · rw [List.getElem?_set_ne (Ne.symm e')] at hk
        simp only [if_neg e, if_neg e']
        exact hd j k B C hjk hj hk
/-- One thing is lent to a call, and comes back turned. -/
theorem St.lend1 (S : St G w0 w L) (i : Nat) (hi : L[i]? = some A) (ho : A.sh = false) : ∃ F, A.at_ w F ∧ ∀ w' A', A'.sh = false → St F w w' [A'] → St G w0 w' (L.set i A') := by
  obtain ⟨F, h1, h2⟩ := S.stepAt hi ho
  refine ⟨F, h1, fun w' A' ho' T => ?_⟩
  obtain ⟨Gs, hg, _⟩ := T.ex
  obtain ⟨g1, g2⟩ := hg 0 A' rfl
  exact h2 w' A' ⟨Gs 0, T.keep, g1, g2 ho'⟩
end
end Go.Proofs.YthegonbbimmhhaaGreatDoor.Mem
/- The order of keys, plain. -/
namespace Go.Proofs.YthegonbbimmhhaaGreatDoor
open Go.Sort

theorem Key.lt_iff (k l : Key) : k.lt l = true ↔ k.at_ < l.at_ ∨ (k.at_ = l.at_ ∧ (k.src < l.src ∨ (k.src = l.src ∧ (k.sent < l.sent ∨ (k.sent = l.sent ∧ k.no < l.no))))) := by
  unfold Key.lt
  split
  · simp; omega
  · split
    · simp; omega
    · split
      · simp; omega
      · simp; omega
theorem Key.lt_irrefl' (k : Key) : k.lt k = false := by
  rw [Bool.eq_false_iff, ne_eq, Key.lt_iff]; omega
theorem Key.lt_asymm' {a b : Key} (h : a.lt b = true) : b.lt a = false := by
  rw [Bool.eq_false_iff, ne_eq, Key.lt_iff]; rw [Key.lt_iff] at h; omega
theorem Key.eq_of {a b : Key} (h : a.lt b = false) (k : b.lt a = false) : a = b := by
  rw [Bool.eq_false_iff, ne_eq, Key.lt_iff] at h k
  obtain ⟨a1, a2, a3, a4⟩ := a; obtain ⟨b1, b2, b3, b4⟩ := b
  simp only [Key.mk.injEq] at *; omega
theorem Key.cmp_neg (k l : Key) : decide (k.cmp l < 0) = k.lt l := by
  unfold Key.cmp
  cases h : k.lt l with
  | true => simp
  | false => cases h2 : l.lt k <;> simp
end Go.Proofs.YthegonbbimmhhaaGreatDoor
/- The walks of a heap's inner functions: ahead, swap, up, down, and New. -/
namespace Go.Proofs.YthegonbbimmhhaaGreatDoor
open Go.RowKit Reg Mem

def Row.cells (r : Row) : List Value := (#[.int .i64 r.key.at_, .int .i64 r.key.src, .int .i64 r.key.sent, .int .i64 r.key.no, .int .i64 r.v.key.at_, .int .i64 r.v.key.src, .int .i64 r.v.key.sent, .int .i64 r.v.key.no, .int .i64 r.v.dst, .int .i64 r.v.kind, .int .i64 r.v.data]).toList
theorem hcells : ∀ r : Row, r.cells.length = 11 := fun _ => rfl
theorem hone : ∀ r : Row, ∀ u ∈ r.cells, u.oneCell' = true := fun _ => by simp [Row.cells, Value.oneCell']
set_option maxRecDepth 100000 in
theorem elem_Row : Elem Tryz.prog 137 142 11 88 := ⟨_, .agg #[.int .i64 0, .int .i64 0, .int .i64 0, .int .i64 0, .int .i64 0, .int .i64 0, .int .i64 0, .int .i64 0, .int .i64 0, .int .i64 0, .int .i64 0], Tryz.underlying137, rfl, by kernel_rfl, by kernel_rfl, by kernel_rfl, by kernel_rfl, by omega⟩
def keyed : Keyed Tryz.prog 50 Key.cells :=
  ⟨[.int .i64, .int .i64, .int .i64, .int .i64], by kernel_rfl, fun _ => rfl, fun a b => by
    obtain ⟨a1, a2, a3, a4⟩ := a; obtain ⟨b1, b2, b3, b4⟩ := b
    simp only [Key.cells, ceqs, ceq, Bool.and_true, Key.mk.injEq]
    rw [Bool.eq_iff_iff]; simp⟩
theorem wholeKey (k : Key) : whole Tryz.prog 50 (Key.cells k) = .agg #[.int .i64 k.at_, .int .i64 k.src, .int .i64 k.sent, .int .i64 k.no] := by kernel_rfl
/-- A heap's blocks. -/
def rawH (B M : Nat) (v : Value) (rows : List Row) : Asn := sep false (Blk false B #[v, .map (some M)] 139) (sep false (MapA false Tryz.prog 50 Key.cells M (posMap rows)) (Own 142 Row.cells 11 v rows))
theorem Mem.St.swap2 {G : Nat → Prop} {w0 w : World} {L : List Asn} {A B : Asn} (S : St G w0 w (A :: B :: L)) : St G w0 w (B :: A :: L) := by
  obtain ⟨Fs, hf, hd⟩ := S.ex
  have g : ∀ i : Nat, ∀ X : Asn, (B :: A :: L)[i]? = some X → (A :: B :: L)[(match i with | 0 => 1 | 1 => 0 | i + 2 => i + 2 : Nat)]? = some X := by
    intro i X h
    match i with
    | 0 => exact h
    | 1 => exact h
    | i + 2 => exact h
  refine ⟨S.keep, fun i => Fs (match i with | 0 => 1 | 1 => 0 | i + 2 => i + 2 : Nat), fun i X hi => hf _ X (g i X hi), fun i j X Y hij hi hj => ?_⟩
  have hi' := g i X hi
  have hj' := g j Y hj
  match i, j, hij with
  | 0, 1, _ =>
    rcases hd 0 1 Y X (by omega) hj' hi' with ⟨e1, e2⟩ | e
    · exact .inl ⟨e2, e1⟩
    · exact .inr fun x hx hx' => e x hx' hx
  | 0, j + 2, _ => exact hd 1 (j + 2) X Y (by omega) hi' hj'
  | 1, j + 2, _ => exact hd 0 (j + 2) X Y (by omega) hi' hj'
  | i + 2, j + 2, h => exact hd (i + 2) (j + 2) X Y (by omega) hi' hj'
  | 0, 0, h => omega
  | i + 1, 0, h => omega
  | i + 1, 1, h => omega
theorem rawH_open {G : Nat → Prop} {w0 w : World} {L : List Asn} {B M : Nat} {v : Value} {rows : List Row} (S : St G w0 w (rawH B M v rows :: L)) :
    St G w0 w (MapA false Tryz.prog 50 Key.cells M (posMap rows) :: Own 142 Row.cells 11 v rows :: Blk false B #[v, .map (some M)] 139 :: L) := ((S.open_sep rfl rfl).swap2).open_sep rfl rfl
theorem rawH_st {B M : Nat} {v : Value} {rows : List Row} {w : World} {F : Nat → Prop} (h : (rawH B M v rows).at_ w F) :
    St F w w [MapA false Tryz.prog 50 Key.cells M (posMap rows), Own 142 Row.cells 11 v rows, Blk false B #[v, .map (some M)] 139] := rawH_open (St.one w h)
theorem rawH_close {G : Nat → Prop} {w0 w : World} {L : List Asn} {B M : Nat} {v : Value} {rows : List Row} (S : St G w0 w (MapA false Tryz.prog 50 Key.cells M (posMap rows) :: Own 142 Row.cells 11 v rows :: Blk false B #[v, .map (some M)] 139 :: L)) :
    St G w0 w (rawH B M v rows :: L) := (S.close_sep rfl rfl).swap2.close_sep rfl rfl
/-- A heap that is only read. -/
theorem rawR_st {B M : Nat} {v : Value} {rows : List Row} {w : World} {F : Nat → Prop} (h : (rawH B M v rows).at_ w F) :
    St (fun _ => False) w w [MapA true Tryz.prog 50 Key.cells M (posMap rows), Sl true Row.cells 11 v rows, Blk true B #[v, .map (some M)] 139] := by
  obtain ⟨F1, F2, h1, ⟨F3, F4, h3, h4, _, _⟩, _, _⟩ := h
  have S0 : St (fun _ => False) w w [Blk true B #[v, .map (some M)] 139] := (St.init _ w).share rfl rfl h1
  have S1 := S0.share (A := Sl true Row.cells 11 v rows) rfl rfl (own_sl (sh := true) hcells h4)
  exact S1.share (A := MapA true Tryz.prog 50 Key.cells M (posMap rows)) rfl rfl h3
theorem own_head {G : Nat → Prop} {w0 w : World} {L : List Asn} {v : Value} {rows : List Row} (i : Nat) (S : St G w0 w L) (hi : L[i]? = some (Own 142 Row.cells 11 v rows)) (h0 : 0 < rows.length) : ∃ R c, v = .slice (some ⟨R, 0, none⟩) rows.length c ∧ rows.length ≤ c := by
  obtain ⟨F1, h1, _⟩ := S.get hi
  obtain ⟨R, c, cur, e, hO⟩ := h1.some (by omega)
  exact ⟨R, c, e, hO.le⟩
theorem ahead_calls (B M i j : Nat) (v : Value) (rows : List Row) (r r' : Row) (w : World) (F : Nat → Prop) (h : (rawH B M v rows).at_ w F) (hi : rows[i]? = some r) (hj : rows[j]? = some r') :
    Calls Tryz.prog 107 #[.pointer (some ⟨B, 0, none⟩), .int .i64 i, .int .i64 j] w fun e w' => e = .returned (.bool (r.key.lt r'.key)) ∧ Below w.heap.size w w' := by
  have S := rawR_st h
  have hi1 : (i : Int) < rows.length := by have := (List.getElem?_eq_some_iff.1 hi).1; omega
  have hj1 : (j : Int) < rows.length := by have := (List.getElem?_eq_some_iff.1 hj).1; omega
  obtain ⟨ad, cp, rfl, _⟩ := (S.sl 1 rfl).elim fun _ h => h.form
  obtain ⟨R, o, rfl⟩ : ∃ R o, ad = some ⟨R, o, none⟩ := (S.sl 1 rfl).elim fun F h => h.head (by omega)
  have Hi := Lib.hid hi
  have Hj := Lib.hid hj
  clear hi hj
  clear h
  go_enter Tryz.func107, Tryz.ntmps107
  go_wp2_with first | ((with_reducible apply wps_loada_el S 1 (hj := Hi.out) (q := 0) (vs := [.int .i64 r.key.at_, .int .i64 r.key.src, .int .i64 r.key.sent, .int .i64 r.key.no]) (m := 4)); (case hx | hi => rfl); (case hn => omega); (case hm | hv => rfl); (case hT => decide +kernel)) | ((with_reducible apply wps_loada_el S 1 (hj := Hi.out) (q := 4) (vs := [.int .i64 r.v.key.at_, .int .i64 r.v.key.src, .int .i64 r.v.key.sent, .int .i64 r.v.key.no]) (m := 4)); (case hx | hi => rfl); (case hn => omega); (case hm | hv => rfl); (case hT => decide +kernel)) | ((with_reducible apply wps_loada_el S 1 (hj := Hj.out) (q := 0) (vs := [.int .i64 r'.key.at_, .int .i64 r'.key.src, .int .i64 r'.key.sent, .int .i64 r'.key.no]) (m := 4)); (case hx | hi => rfl); (case hn => omega); (case hm | hv => rfl); (case hT => decide +kernel)) | ((with_reducible apply wps_loada_el S 1 (hj := Hj.out) (q := 4) (vs := [.int .i64 r'.v.key.at_, .int .i64 r'.v.key.src, .int .i64 r'.v.key.sent, .int .i64 r'.v.key.no]) (m := 4)); (case hx | hi => rfl); (case hn => omega); (case hm | hv => rfl); (case hT => decide +kernel)) | (go_at_call 15; refine Calls.mono (compare_calls _ _ _ _ _ _ _ _ _) ?_; rintro e wz ⟨rfl, hE⟩; replace S := S.ext (Keep.of_below hE); clear hE) | ((with_reducible refine tot_done ?ht ?_); (case ht => kernel_rfl)) | ((with_reducible apply wps_text S); (case hm => kernel_rfl); (case hB => decide +kernel); clear S; intro wz S) | ((with_reducible apply wps_load S 0); (case hx | hi | hu => rfl); (case hT => decide +kernel)) | ((with_reducible apply wps_loada (T := 50) (k := 4) S 0); (case hx | hi => rfl); (case hk => exact Nat.le_of_ble_eq_true rfl); (case hT => decide +kernel)) | ((with_reducible apply wps_load S 1); (case hx | hi | hu => rfl); (case hT => decide +kernel)) | ((with_reducible apply wps_loada (T := 50) (k := 4) S 1); (case hx | hi => rfl); (case hk => exact Nat.le_of_ble_eq_true rfl); (case hT => decide +kernel)) | ((with_reducible apply wps_load S 2); (case hx | hi | hu => rfl); (case hT => decide +kernel)) | ((with_reducible apply wps_loada (T := 50) (k := 4) S 2); (case hx | hi => rfl); (case hk => exact Nat.le_of_ble_eq_true rfl); (case hT => decide +kernel)) | ((with_reducible apply wps_load S 3); (case hx | hi | hu => rfl); (case hT => decide +kernel)) | ((with_reducible apply wps_loada (T := 50) (k := 4) S 3); (case hx | hi => rfl); (case hk => exact Nat.le_of_ble_eq_true rfl); (case hT => decide +kernel))
  go_ret
  exact ⟨ret_bool (Key.cmp_neg _ _), S.below⟩
def HPost (F : Nat → Prop) (B M : Nat) (v : Value) (rows : List Row) (w : World) (e : Ending) (w' : World) : Prop := e = .returned (.tuple #[]) ∧ St F w w' [rawH B M v rows]
theorem ahead_int (B M : Nat) (i j : Int) (v : Value) (rows : List Row) (r r' : Row) (w : World) (F : Nat → Prop) (h : (rawH B M v rows).at_ w F) (hi0 : 0 ≤ i) (hj0 : 0 ≤ j) (hi : rows[i.toNat]? = some r) (hj : rows[j.toNat]? = some r') :
    Calls Tryz.prog 107 #[.pointer (some ⟨B, 0, none⟩), .int .i64 i, .int .i64 j] w fun e w' => e = .returned (.bool (r.key.lt r'.key)) ∧ Below w.heap.size w w' := by
  obtain ⟨n, rfl⟩ := Int.eq_ofNat_of_zero_le hi0
  obtain ⟨m, rfl⟩ := Int.eq_ofNat_of_zero_le hj0
  exact ahead_calls B M n m v rows r r' w F h hi hj
set_option maxHeartbeats 1000000 in
set_option maxRecDepth 100000 in
theorem swap_calls (B M i j : Nat) (v : Value) (rows : List Row) (r r' : Row) (w : World) (F : Nat → Prop) (h : (rawH B M v rows).at_ w F) (hd : (rows.map (·.key)).Nodup) (hi : rows[i]? = some r) (hj : rows[j]? = some r') (hne : i ≠ j) :
    Calls Tryz.prog 108 #[.pointer (some ⟨B, 0, none⟩), .int .i64 i, .int .i64 j] w (HPost F B M v (xch rows i j r r') w) := by
  have S := rawH_st h
  have hi1 : (i : Int) < rows.length := by have := (List.getElem?_eq_some_iff.1 hi).1; omega
  have hj1 : (j : Int) < rows.length := by have := (List.getElem?_eq_some_iff.1 hj).1; omega
  obtain ⟨R, cp, rfl, _⟩ := own_head 1 S rfl (by omega)
  have HJ2 := Lib.hid (show (rows.set i r')[j]? = some r' by rw [List.getElem?_set_ne hne]; exact hj)
  have HI3 := Lib.hid (show ((rows.set i r').set j r)[i]? = some r' by show (xch rows i j r r')[i]? = _; rw [xch_get hi hj, if_neg hne, if_pos rfl])
  have HJ3 := Lib.hid (show ((rows.set i r').set j r)[j]? = some r by show (xch rows i j r r')[j]? = _; rw [xch_get hi hj, if_pos rfl])
  have HE := Lib.hid (posMap_xch hd hi hj (xch_perm hi hj))
  have Hi := Lib.hid hi
  have Hj := Lib.hid hj
  clear hi hj
  clear h hd
  go_enter Tryz.func108, Tryz.ntmps108
  go_wp2_with first | ((with_reducible apply wps_loada_own hcells S 1 (hj := Hi.out) (q := 0) (vs := [.int .i64 r.key.at_, .int .i64 r.key.src, .int .i64 r.key.sent, .int .i64 r.key.no, .int .i64 r.v.key.at_, .int .i64 r.v.key.src, .int .i64 r.v.key.sent, .int .i64 r.v.key.no, .int .i64 r.v.dst, .int .i64 r.v.kind, .int .i64 r.v.data]) (m := 11)); (case hx | hi => rfl); (case hn => omega); (case hm | hv => rfl); (case hT => decide +kernel)) | ((with_reducible apply wps_loada_own hcells S 1 (hj := Hi.out) (q := 0) (vs := [.int .i64 r.key.at_, .int .i64 r.key.src, .int .i64 r.key.sent, .int .i64 r.key.no]) (m := 4)); (case hx | hi => rfl); (case hn => omega); (case hm | hv => rfl); (case hT => decide +kernel)) | ((with_reducible apply wps_loada_own hcells S 1 (hj := Hi.out) (q := 4) (vs := [.int .i64 r.v.key.at_, .int .i64 r.v.key.src, .int .i64 r.v.key.sent, .int .i64 r.v.key.no]) (m := 4)); (case hx | hi => rfl); (case hn => omega); (case hm | hv => rfl); (case hT => decide +kernel)) | ((with_reducible apply wps_loada_own hcells S 1 (hj := Hj.out) (q := 0) (vs := [.int .i64 r'.key.at_, .int .i64 r'.key.src, .int .i64 r'.key.sent, .int .i64 r'.key.no, .int .i64 r'.v.key.at_, .int .i64 r'.v.key.src, .int .i64 r'.v.key.sent, .int .i64 r'.v.key.no, .int .i64 r'.v.dst, .int .i64 r'.v.kind, .int .i64 r'.v.data]) (m := 11)); (case hx | hi => rfl); (case hn => omega); (case hm | hv => rfl); (case hT => decide +kernel)) | ((with_reducible apply wps_loada_own hcells S 1 (hj := Hj.out) (q := 0) (vs := [.int .i64 r'.key.at_, .int .i64 r'.key.src, .int .i64 r'.key.sent, .int .i64 r'.key.no]) (m := 4)); (case hx | hi => rfl); (case hn => omega); (case hm | hv => rfl); (case hT => decide +kernel)) | ((with_reducible apply wps_loada_own hcells S 1 (hj := Hj.out) (q := 4) (vs := [.int .i64 r'.v.key.at_, .int .i64 r'.v.key.src, .int .i64 r'.v.key.sent, .int .i64 r'.v.key.no]) (m := 4)); (case hx | hi => rfl); (case hn => omega); (case hm | hv => rfl); (case hT => decide +kernel)) | ((with_reducible apply wps_store_owna hcells S 1 (hj := Hi.out) (e' := r') (q := 0) (vs := [.int .i64 r'.key.at_, .int .i64 r'.key.src, .int .i64 r'.key.sent, .int .i64 r'.key.no, .int .i64 r'.v.key.at_, .int .i64 r'.v.key.src, .int .i64 r'.v.key.sent, .int .i64 r'.v.key.no, .int .i64 r'.v.dst, .int .i64 r'.v.kind, .int .i64 r'.v.data]) (m := 11)); (case hx => rfl); (case hn => omega); (case hi | hy | hm | h1 | he => rfl); (case hq => exact Nat.le_of_ble_eq_true rfl); (case hT => decide +kernel); clear S; intro wz S; simp only [List.set_cons_succ, List.set_cons_zero] at S) | ((with_reducible apply wps_store_owna hcells S 1 (hj := HJ2.out) (e' := r) (q := 0) (vs := [.int .i64 r.key.at_, .int .i64 r.key.src, .int .i64 r.key.sent, .int .i64 r.key.no, .int .i64 r.v.key.at_, .int .i64 r.v.key.src, .int .i64 r.v.key.sent, .int .i64 r.v.key.no, .int .i64 r.v.dst, .int .i64 r.v.kind, .int .i64 r.v.data]) (m := 11)); (case hx => rfl); (case hn => omega); (case hi | hy | hm | h1 | he => rfl); (case hq => exact Nat.le_of_ble_eq_true rfl); (case hT => decide +kernel); clear S; intro wz S; simp only [List.set_cons_succ, List.set_cons_zero] at S) | ((with_reducible apply wps_loada_own hcells S 1 (hj := HI3.out) (q := 0) (vs := [.int .i64 r'.key.at_, .int .i64 r'.key.src, .int .i64 r'.key.sent, .int .i64 r'.key.no, .int .i64 r'.v.key.at_, .int .i64 r'.v.key.src, .int .i64 r'.v.key.sent, .int .i64 r'.v.key.no, .int .i64 r'.v.dst, .int .i64 r'.v.kind, .int .i64 r'.v.data]) (m := 11)); (case hx | hi => rfl); (case hn => omega); (case hm | hv => rfl); (case hT => decide +kernel)) | ((with_reducible apply wps_loada_own hcells S 1 (hj := HI3.out) (q := 0) (vs := [.int .i64 r'.key.at_, .int .i64 r'.key.src, .int .i64 r'.key.sent, .int .i64 r'.key.no]) (m := 4)); (case hx | hi => rfl); (case hn => omega); (case hm | hv => rfl); (case hT => decide +kernel)) | ((with_reducible apply wps_loada_own hcells S 1 (hj := HI3.out) (q := 4) (vs := [.int .i64 r'.v.key.at_, .int .i64 r'.v.key.src, .int .i64 r'.v.key.sent, .int .i64 r'.v.key.no]) (m := 4)); (case hx | hi => rfl); (case hn => omega); (case hm | hv => rfl); (case hT => decide +kernel)) | ((with_reducible apply wps_loada_own hcells S 1 (hj := HJ3.out) (q := 0) (vs := [.int .i64 r.key.at_, .int .i64 r.key.src, .int .i64 r.key.sent, .int .i64 r.key.no, .int .i64 r.v.key.at_, .int .i64 r.v.key.src, .int .i64 r.v.key.sent, .int .i64 r.v.key.no, .int .i64 r.v.dst, .int .i64 r.v.kind, .int .i64 r.v.data]) (m := 11)); (case hx | hi => rfl); (case hn => omega); (case hm | hv => rfl); (case hT => decide +kernel)) | ((with_reducible apply wps_loada_own hcells S 1 (hj := HJ3.out) (q := 0) (vs := [.int .i64 r.key.at_, .int .i64 r.key.src, .int .i64 r.key.sent, .int .i64 r.key.no]) (m := 4)); (case hx | hi => rfl); (case hn => omega); (case hm | hv => rfl); (case hT => decide +kernel)) | ((with_reducible apply wps_loada_own hcells S 1 (hj := HJ3.out) (q := 4) (vs := [.int .i64 r.v.key.at_, .int .i64 r.v.key.src, .int .i64 r.v.key.sent, .int .i64 r.v.key.no]) (m := 4)); (case hx | hi => rfl); (case hn => omega); (case hm | hv => rfl); (case hT => decide +kernel)) | ((with_reducible apply wps_mapUpdate keyed Tryz.underlying136 S 0 (k := r'.key) (v := .int .i64 i)); (case hx | hi => rfl); (case hy => exact (wholeKey _).symm); (case hz => rfl); clear S; intro wz S; simp only [List.set_cons_zero] at S) | ((with_reducible apply wps_mapUpdate keyed Tryz.underlying136 S 0 (k := r.key) (v := .int .i64 j)); (case hx | hi => rfl); (case hy => exact (wholeKey _).symm); (case hz => rfl); clear S; intro wz S; simp only [List.set_cons_zero] at S) | ((with_reducible refine tot_done ?ht ?_); (case ht => kernel_rfl)) | ((with_reducible apply wps_text S); (case hm => kernel_rfl); (case hB => decide +kernel); clear S; intro wz S) | ((with_reducible apply wps_load S 0); (case hx | hi | hu => rfl); (case hT => decide +kernel)) | ((with_reducible apply wps_loada (T := 50) (k := 4) S 0); (case hx | hi => rfl); (case hk => exact Nat.le_of_ble_eq_true rfl); (case hT => decide +kernel)) | ((with_reducible apply wps_loada (T := 142) (k := 11) S 0); (case hx | hi => rfl); (case hk => exact Nat.le_of_ble_eq_true rfl); (case hT => decide +kernel)) | ((with_reducible apply wps_load S 1); (case hx | hi | hu => rfl); (case hT => decide +kernel)) | ((with_reducible apply wps_loada (T := 50) (k := 4) S 1); (case hx | hi => rfl); (case hk => exact Nat.le_of_ble_eq_true rfl); (case hT => decide +kernel)) | ((with_reducible apply wps_loada (T := 142) (k := 11) S 1); (case hx | hi => rfl); (case hk => exact Nat.le_of_ble_eq_true rfl); (case hT => decide +kernel)) | ((with_reducible apply wps_load S 2); (case hx | hi | hu => rfl); (case hT => decide +kernel)) | ((with_reducible apply wps_loada (T := 50) (k := 4) S 2); (case hx | hi => rfl); (case hk => exact Nat.le_of_ble_eq_true rfl); (case hT => decide +kernel)) | ((with_reducible apply wps_loada (T := 142) (k := 11) S 2); (case hx | hi => rfl); (case hk => exact Nat.le_of_ble_eq_true rfl); (case hT => decide +kernel)) | ((with_reducible apply wps_load S 3); (case hx | hi | hu => rfl); (case hT => decide +kernel)) | ((with_reducible apply wps_loada (T := 50) (k := 4) S 3); (case hx | hi => rfl); (case hk => exact Nat.le_of_ble_eq_true rfl); (case hT => decide +kernel)) | ((with_reducible apply wps_loada (T := 142) (k := 11) S 3); (case hx | hi => rfl); (case hk => exact Nat.le_of_ble_eq_true rfl); (case hT => decide +kernel))
  go_end0
  refine ⟨rfl, ?_⟩
  rw [HE.out] at S
  exact rawH_close S
end Go.Proofs.YthegonbbimmhhaaGreatDoor
/- The walks of a heap's up and down. -/
namespace Go.Proofs.YthegonbbimmhhaaGreatDoor
open Go.RowKit Reg Mem

theorem swap_int (B M : Nat) (i j : Int) (v : Value) (rows : List Row) (r r' : Row) (w : World) (F : Nat → Prop) (h : (rawH B M v rows).at_ w F) (hd : (rows.map (·.key)).Nodup) (hi0 : 0 ≤ i) (hj0 : 0 ≤ j) (hi : rows[i.toNat]? = some r) (hj : rows[j.toNat]? = some r') (hne : i ≠ j) (n m : Nat) (hn : i.toNat = n) (hm : j.toNat = m) :
    Calls Tryz.prog 108 #[.pointer (some ⟨B, 0, none⟩), .int .i64 i, .int .i64 j] w (HPost F B M v (xch rows n m r r') w) := by
  obtain ⟨n, rfl⟩ := Int.eq_ofNat_of_zero_le hi0
  obtain ⟨m, rfl⟩ := Int.eq_ofNat_of_zero_le hj0
  subst hn hm
  exact swap_calls B M n m v rows r r' w F h hd hi hj (by omega)
theorem nodup_perm {a b : List Row} (h : a.Perm b) (hd : (b.map (·.key)).Nodup) : (a.map (·.key)).Nodup := ((h.map (·.key)).nodup_iff).2 hd
def UpRel (F : Nat → Prop) (B M : Nat) (v : Value) (rows : List Row) (i0 : Nat) (w : World) (i : Value) (wr : World) : Prop :=
  ∃ (k f : Nat) (rs : List Row), i = .int .i64 k ∧ k ≤ f ∧ rs.Perm rows ∧ k < rs.length ∧ hup i0 rows i0 = hup f rs k ∧ St F w wr [rawH B M v rs]
set_option maxHeartbeats 1000000 in
set_option maxRecDepth 100000 in
theorem up_calls (B M i : Nat) (v : Value) (rows : List Row) (w : World) (F : Nat → Prop) (h : (rawH B M v rows).at_ w F) (hd : (rows.map (·.key)).Nodup) (hi : i < rows.length) (hmax : rows.length ≤ 4294967296) :
    Calls Tryz.prog 87 #[.pointer (some ⟨B, 0, none⟩), .int .i64 i] w (HPost F B M v (hup i rows i) w) := by
  have S := St.one w h
  have Hd := Lib.hid hd
  clear h hd
  go_enter Tryz.func87, Tryz.ntmps87
  go_wp2_with first | go_skip | ((with_reducible refine wpList_skip ?hw ?_); (case hw => with_unfolding_all rfl); simp only [Act.put, List.setIfInBounds_toArray, List.set_cons_succ, List.set_cons_zero]) | ((with_reducible refine tot_done ?ht ?_); (case ht => kernel_rfl))
  go_loopw [1] (fun i' wr => UpRel F B M v rows i w i' wr) (fun i' _ => (intOf i').toNat)
  case atStart => exact ⟨i, i, rows, rfl, Nat.le_refl _, .refl _, hi, rfl, S⟩
  case round =>
    clear S
    obtain ⟨k, f, rs, rfl, hf, hperm, hk, heq, S⟩ := hrel
    have hlen := hperm.length_eq
    have hp : (k - 1) / 2 < rs.length := by omega
    obtain ⟨r, hr⟩ : ∃ r, rs[k]? = some r := ⟨_, List.getElem?_eq_getElem hk⟩
    obtain ⟨p, hpr⟩ : ∃ r, rs[(k - 1) / 2]? = some r := ⟨_, List.getElem?_eq_getElem hp⟩
    have hk1 : (k : Int) ≤ 4294967296 := by omega
    have HD := Lib.hid (nodup_perm hperm Hd.out)
    have HEQ := Lib.hid heq
    have HR := Lib.hid hr
    have HP := Lib.hid hpr
    have HL := Lib.hid hlen
    have HPM := Lib.hid hperm
    clear heq hr hpr hlen hperm
    by_cases h0 : 0 < k
    · have h0' : (0 : Int) < k := by omega
      have en : (((k : Int) - 1) / 2).toNat = (k - 1) / 2 := by omega
      have EN := Lib.hid en
      clear en
      have HP2 := Lib.hid (show rs[(((k : Int) - 1) / 2).toNat]? = some p by rw [EN.out]; exact HP.out)
      have HR2 := Lib.hid (show rs[((k : Int)).toNat]? = some r by rw [Int.toNat_natCast]; exact HR.out)
      cases hc : r.key.lt p.key with
      | true =>
        have Hc := Lib.hid hc
        clear hc
        go_wp2_with first | go_skip | ((with_reducible refine wpList_skip ?hw ?_); (case hw => with_unfolding_all rfl); simp only [Act.put, List.setIfInBounds_toArray, List.set_cons_succ, List.set_cons_zero]) | (go_at_call 107; refine Calls.mono (ahead_int _ _ _ _ _ _ _ _ _ _ (S.get (i := 0) rfl).choose_spec (by omega) (by omega) HR2.out HP2.out) ?_; rintro e wz ⟨rfl, hE⟩; rw [Hc.out]; replace S := S.ext (Keep.of_below hE); clear hE) | (go_at_call 108; obtain ⟨Fz, hF, hBk⟩ := S.lend1 0 rfl rfl; refine Calls.mono (swap_int _ _ _ _ _ _ _ _ _ _ hF HD.out (by omega) (by omega) HR2.out HP2.out (by omega) k ((k - 1) / 2) (by omega) EN.out) ?_; rintro e wz ⟨rfl, T⟩; replace S := hBk _ _ rfl T; clear hBk hF T; simp only [List.set_cons_zero] at S) | ((with_reducible refine tot_done ?ht ?_); (case ht => kernel_rfl))
        go_roundw
        case rel =>
          refine ⟨(k - 1) / 2, f - 1, _, by go_num, by omega, (xch_perm HR.out HP.out).trans HPM.out, by rw [xch_length]; omega, ?_, S⟩
          rw [HEQ.out, hup_go HR.out HP.out h0 (hcmp_neg.2 Hc.out) (by omega)]
        case measure => simp [intOf]; omega
      | false =>
        have Hc := Lib.hid hc
        clear hc
        go_wp2_with first | go_skip | ((with_reducible refine wpList_skip ?hw ?_); (case hw => with_unfolding_all rfl); simp only [Act.put, List.setIfInBounds_toArray, List.set_cons_succ, List.set_cons_zero]) | (go_at_call 107; refine Calls.mono (ahead_int _ _ _ _ _ _ _ _ _ _ (S.get (i := 0) rfl).choose_spec (by omega) (by omega) HR2.out HP2.out) ?_; rintro e wz ⟨rfl, hE⟩; rw [Hc.out]; replace S := S.ext (Keep.of_below hE); clear hE) | ((with_reducible refine tot_done ?ht ?_); (case ht => kernel_rfl))
        go_end0
        refine ⟨rfl, ?_⟩
        rw [HEQ.out, hup_stop HR.out HP.out (.inr (fun e => by have := hcmp_neg.1 e; rw [Hc.out] at this; cases this))]
        exact S
    · have h0' : decide ((0 : Int) < k) = false := by simp; omega
      go_wp2_with first | go_skip | ((with_reducible refine wpList_skip ?hw ?_); (case hw => with_unfolding_all rfl); simp only [Act.put, List.setIfInBounds_toArray, List.set_cons_succ, List.set_cons_zero]) | ((with_reducible refine tot_done ?ht ?_); (case ht => kernel_rfl))
      go_end0
      refine ⟨rfl, ?_⟩
      rw [HEQ.out, hup_stop HR.out HP.out (.inl (by omega))]
      exact S
def DownRel (F : Nat → Prop) (B M : Nat) (v : Value) (rows : List Row) (i0 : Nat) (w : World) (i : Value) (wr : World) : Prop :=
  ∃ (k f : Nat) (rs : List Row), i = .int .i64 k ∧ rs.length ≤ k + f ∧ rs.Perm rows ∧ k < rs.length ∧ hdown rows.length rows i0 = hdown f rs k ∧ St F w wr [rawH B M v rs]
def DownIn (F : Nat → Prop) (B M : Nat) (v : Value) (rs : List Row) (k : Nat) (w : World) (c j : Value) (wr : World) : Prop :=
  ∃ t : Nat, t ≤ 2 ∧ c = .int .i64 (stage rs k t : Nat) ∧ j = .int .i64 (2 * k + 1 + t : Nat) ∧ St F w wr [MapA false Tryz.prog 50 Key.cells M (posMap rs), Own 142 Row.cells 11 v rs, Blk false B #[v, .map (some M)] 139]
set_option maxHeartbeats 2000000 in
set_option maxRecDepth 100000 in
theorem down_calls (B M i : Nat) (v : Value) (rows : List Row) (w : World) (F : Nat → Prop) (h : (rawH B M v rows).at_ w F) (hd : (rows.map (·.key)).Nodup) (hi : i < rows.length) (hmax : rows.length ≤ 4294967296) :
    Calls Tryz.prog 109 #[.pointer (some ⟨B, 0, none⟩), .int .i64 i] w (HPost F B M v (hdown rows.length rows i) w) := by
  have S := St.one w h
  have Hd := Lib.hid hd
  clear h hd
  go_enter Tryz.func109, Tryz.ntmps109
  go_wp2_with first | go_skip | ((with_reducible refine wpList_skip ?hw ?_); (case hw => with_unfolding_all rfl); simp only [Act.put, List.setIfInBounds_toArray, List.set_cons_succ, List.set_cons_zero]) | ((with_reducible refine tot_done ?ht ?_); (case ht => kernel_rfl)) | ((with_reducible apply wps_load S 0); (case hx | hi | hu => rfl); (case hT => decide +kernel)) | ((with_reducible apply wps_load S 1); (case hx | hi | hu => rfl); (case hT => decide +kernel)) | ((with_reducible apply wps_load S 2); (case hx | hi | hu => rfl); (case hT => decide +kernel)) | ((with_reducible apply wps_load S 3); (case hx | hi | hu => rfl); (case hT => decide +kernel))
  go_loopw [1] (fun i' wr => DownRel F B M v rows i w i' wr) (fun i' _ => rows.length - (intOf i').toNat)
  case atStart => exact ⟨i, rows.length, rows, rfl, by omega, .refl _, hi, rfl, S⟩
  case round =>
    clear S
    obtain ⟨k, f, rs, rfl, hf, hperm, hk, heq, S⟩ := hrel
    have hlen := hperm.length_eq
    have hk1 : (k : Int) ≤ 4294967296 := by omega
    have HD := Lib.hid (nodup_perm hperm Hd.out)
    have HEQ := Lib.hid heq
    have HL := Lib.hid hlen
    have HPM := Lib.hid hperm
    clear heq hlen hperm
    replace S := rawH_open S
    obtain ⟨R, cp, rfl, _⟩ := own_head 1 S rfl (by omega)
    go_wp2_with first | go_skip | ((with_reducible refine wpList_skip ?hw ?_); (case hw => with_unfolding_all rfl); simp only [Act.put, List.setIfInBounds_toArray, List.set_cons_succ, List.set_cons_zero]) | ((with_reducible refine tot_done ?ht ?_); (case ht => kernel_rfl)) | ((with_reducible apply wps_load S 0); (case hx | hi | hu => rfl); (case hT => decide +kernel)) | ((with_reducible apply wps_load S 1); (case hx | hi | hu => rfl); (case hT => decide +kernel)) | ((with_reducible apply wps_load S 2); (case hx | hi | hu => rfl); (case hT => decide +kernel)) | ((with_reducible apply wps_load S 3); (case hx | hi | hu => rfl); (case hT => decide +kernel))
    go_loopw [4, 5] (fun c j wr => DownIn F B M _ rs k w c j wr) (fun _ j _ => 2 * k + 4 - (intOf j).toNat)
    case atStart => exact ⟨0, by omega, rfl, by go_num, S⟩
    case round =>
      clear S
      obtain ⟨t, ht, rfl, rfl, S⟩ := hrel
      have hst := stage_lt hk t
      generalize hs : stage rs k t = s at hst ⊢
      have HS := Lib.hid hs
      clear hs
      have hlen2 : (rs.length : Int) ≤ 4294967296 := by rw [HL.out]; omega
      by_cases hgo : t < 2 ∧ 2 * k + 1 + t < rs.length
      · obtain ⟨hg1, hg2⟩ := hgo
        obtain ⟨x, hx⟩ : ∃ x, rs[2 * k + 1 + t]? = some x := ⟨_, List.getElem?_eq_getElem hg2⟩
        obtain ⟨y, hy⟩ : ∃ x, rs[s]? = some x := ⟨_, List.getElem?_eq_getElem hst⟩
        have hg2' : ((2 * k + 1 + t : Nat) : Int) < rs.length := by omega
        have hg1' : ((2 * k + 1 + t : Nat) : Int) ≤ 2 * (k : Int) + 2 := by omega
        generalize hj : 2 * k + 1 + t = j at hg2 hg2' hg1' hx ⊢
        have HJ := Lib.hid hj
        have hjl : (j : Int) ≤ 4294967296 := by omega
        have Hx := Lib.hid hx
        have Hy := Lib.hid hy
        clear hx hy
        clear hj
        cases hc : x.key.lt y.key with
        | true =>
          have Hc := Lib.hid hc
          clear hc
          go_wp2_with first | go_skip | ((with_reducible refine wpList_skip ?hw ?_); (case hw => with_unfolding_all rfl); simp only [Act.put, List.setIfInBounds_toArray, List.set_cons_succ, List.set_cons_zero]) | (go_at_call 107; refine Calls.mono (ahead_int _ _ _ _ _ _ _ _ _ _ ((rawH_close S).get (i := 0) rfl).choose_spec (by omega) (by omega) (by rw [Int.toNat_natCast]; exact Hx.out) (by rw [Int.toNat_natCast]; exact Hy.out)) ?_; rintro e wz ⟨rfl, hE⟩; rw [Hc.out]; replace S := S.ext (Keep.of_below hE); clear hE) | ((with_reducible refine tot_done ?ht ?_); (case ht => kernel_rfl)) | ((with_reducible apply wps_load S 0); (case hx | hi | hu => rfl); (case hT => decide +kernel)) | ((with_reducible apply wps_load S 1); (case hx | hi | hu => rfl); (case hT => decide +kernel)) | ((with_reducible apply wps_load S 2); (case hx | hi | hu => rfl); (case hT => decide +kernel)) | ((with_reducible apply wps_load S 3); (case hx | hi | hu => rfl); (case hT => decide +kernel))
          go_roundw
          case rel =>
            refine ⟨t + 1, by omega, ?_, by have := HJ.out; go_num, S⟩
            have e : stage rs k (t + 1) = j := by simp only [stage, hcand]; rw [HJ.out, Hx.out, HS.out, Hy.out]; simp only; rw [if_pos (hcmp_neg.2 Hc.out)]
            rw [e]
          case measure => have := HJ.out; simp [intOf]; omega
        | false =>
          have Hc := Lib.hid hc
          clear hc
          go_wp2_with first | go_skip | ((with_reducible refine wpList_skip ?hw ?_); (case hw => with_unfolding_all rfl); simp only [Act.put, List.setIfInBounds_toArray, List.set_cons_succ, List.set_cons_zero]) | (go_at_call 107; refine Calls.mono (ahead_int _ _ _ _ _ _ _ _ _ _ ((rawH_close S).get (i := 0) rfl).choose_spec (by omega) (by omega) (by rw [Int.toNat_natCast]; exact Hx.out) (by rw [Int.toNat_natCast]; exact Hy.out)) ?_; rintro e wz ⟨rfl, hE⟩; rw [Hc.out]; replace S := S.ext (Keep.of_below hE); clear hE) | ((with_reducible refine tot_done ?ht ?_); (case ht => kernel_rfl)) | ((with_reducible apply wps_load S 0); (case hx | hi | hu => rfl); (case hT => decide +kernel)) | ((with_reducible apply wps_load S 1); (case hx | hi | hu => rfl); (case hT => decide +kernel)) | ((with_reducible apply wps_load S 2); (case hx | hi | hu => rfl); (case hT => decide +kernel)) | ((with_reducible apply wps_load S 3); (case hx | hi | hu => rfl); (case hT => decide +kernel))
          go_roundw
          case rel =>
            refine ⟨t + 1, by omega, ?_, by have := HJ.out; go_num, S⟩
            have e : stage rs k (t + 1) = s := by simp only [stage, hcand]; rw [HJ.out, Hx.out, HS.out, Hy.out]; exact if_neg (fun e => by have := hcmp_neg.1 e; rw [Hc.out] at this; cases this)
            rw [e]
          case measure => have := HJ.out; simp [intOf]; omega
      · have hdone : t = 2 ∨ rs.length ≤ 2 * k + 1 + t := by omega
        have hsd : s = stage rs k 2 := by rw [← HS.out]; exact stage_done ht hdone
        have HSD := Lib.hid hsd
        have hso : s = k ∨ k < s := by rw [hsd]; exact stage_or 2
        have hexit : decide (((2 * k + 1 + t : Nat) : Int) ≤ 2 * (k : Int) + 2) = false ∨ (((2 * k + 1 + t : Nat) : Int) ≤ 2 * (k : Int) + 2 ∧ decide (2 * k + 1 + t < rs.length) = false) := by
          rcases hdone with h | h
          · left; simp; omega
          · by_cases h2 : ((2 * k + 1 + t : Nat) : Int) ≤ 2 * (k : Int) + 2
            · right; exact ⟨h2, by simp; omega⟩
            · left; simp; omega
        generalize hj : 2 * k + 1 + t = j at hexit ⊢
        have HJ1 : (j : Int) ≤ 17179869186 := by omega
        clear hj hsd hdone hgo
        by_cases hsk : s = k
        · subst hsk
          have hss : ((s : Int) == (s : Int)) = true := by simp
          rcases hexit with hx1 | ⟨hx1, hx2⟩
          all_goals
            go_wp2_with first | go_skip | ((with_reducible refine wpList_skip ?hw ?_); (case hw => with_unfolding_all rfl); simp only [Act.put, List.setIfInBounds_toArray, List.set_cons_succ, List.set_cons_zero]) | ((with_reducible refine tot_done ?ht ?_); (case ht => kernel_rfl)) | ((with_reducible apply wps_load S 0); (case hx | hi | hu => rfl); (case hT => decide +kernel)) | ((with_reducible apply wps_load S 1); (case hx | hi | hu => rfl); (case hT => decide +kernel)) | ((with_reducible apply wps_load S 2); (case hx | hi | hu => rfl); (case hT => decide +kernel)) | ((with_reducible apply wps_load S 3); (case hx | hi | hu => rfl); (case hT => decide +kernel))
            go_end0
            refine ⟨rfl, ?_⟩
            rw [HEQ.out, hdown_stop HSD.out.symm]
            exact rawH_close S
        · have hsne : ((s : Int) == (k : Int)) = false := by simp; omega
          obtain ⟨x, hx⟩ : ∃ x, rs[k]? = some x := ⟨_, List.getElem?_eq_getElem hk⟩
          obtain ⟨y, hy⟩ : ∃ x, rs[s]? = some x := ⟨_, List.getElem?_eq_getElem hst⟩
          have hks : k < s := by rcases hso with h | h; exact absurd h hsk; exact h
          clear hso
          have Hx := Lib.hid hx
          have Hy := Lib.hid hy
          have Hsk := Lib.hid hsk
          clear hx hy hsk
          rcases hexit with hx1 | ⟨hx1, hx2⟩
          all_goals
            go_wp2_with first | go_skip | ((with_reducible refine wpList_skip ?hw ?_); (case hw => with_unfolding_all rfl); simp only [Act.put, List.setIfInBounds_toArray, List.set_cons_succ, List.set_cons_zero]) | ((with_reducible refine tot_done ?ht ?_); (case ht => kernel_rfl)) | ((with_reducible apply wps_load S 0); (case hx | hi | hu => rfl); (case hT => decide +kernel)) | ((with_reducible apply wps_load S 1); (case hx | hi | hu => rfl); (case hT => decide +kernel)) | ((with_reducible apply wps_load S 2); (case hx | hi | hu => rfl); (case hT => decide +kernel)) | ((with_reducible apply wps_load S 3); (case hx | hi | hu => rfl); (case hT => decide +kernel))
            replace S := rawH_close S
            go_wp2_with first | go_skip | ((with_reducible refine wpList_skip ?hw ?_); (case hw => with_unfolding_all rfl); simp only [Act.put, List.setIfInBounds_toArray, List.set_cons_succ, List.set_cons_zero]) | (go_at_call 108; obtain ⟨Fz, hF, hBk⟩ := S.lend1 0 rfl rfl; refine Calls.mono (swap_int _ _ _ _ _ _ _ _ _ _ hF HD.out (by omega) (by omega) (by rw [Int.toNat_natCast]; exact Hx.out) (by rw [Int.toNat_natCast]; exact Hy.out) (by omega) k s (by omega) (by omega)) ?_; rintro e wz ⟨rfl, T⟩; replace S := hBk _ _ rfl T; clear hBk hF T; simp only [List.set_cons_zero] at S) | ((with_reducible refine tot_done ?ht ?_); (case ht => kernel_rfl)) | ((with_reducible apply wps_load S 0); (case hx | hi | hu => rfl); (case hT => decide +kernel)) | ((with_reducible apply wps_load S 1); (case hx | hi | hu => rfl); (case hT => decide +kernel)) | ((with_reducible apply wps_load S 2); (case hx | hi | hu => rfl); (case hT => decide +kernel)) | ((with_reducible apply wps_load S 3); (case hx | hi | hu => rfl); (case hT => decide +kernel))
            go_roundw
            case rel =>
              refine ⟨s, f - 1, _, rfl, by rw [xch_length]; omega, (xch_perm Hx.out Hy.out).trans HPM.out, by rw [xch_length]; exact hst, ?_, S⟩
              rw [HEQ.out, hdown_go (r := x) (p := y) (by rw [← HSD.out]; exact Hsk.out) Hx.out (by rw [← HSD.out]; exact Hy.out) (by omega), ← HSD.out]
            case measure => have := HL.out; simp [intOf]; omega
end Go.Proofs.YthegonbbimmhhaaGreatDoor
/- A slice that is owned is cut; its last element cleared. Over any program. -/
namespace Go.Proofs.YthegonbbimmhhaaGreatDoor.Mem
open Go Go.RowKit Reg
section
variable {P : Program} {ops : Array Oper} {rest : List Oper} {a : Act} {Q : Exit → Act → World → Prop} {d : Option Tmp} {tt : TypeId} {p : String} {af : Array Edge} {gd : Option (Nat × Bool)} {x y : Operand}
variable {G : Nat → Prop} {w0 w w' : World} {L : List Asn}
/-- 's[l:]', as a value. -/
theorem wps_tail {T E : TypeId} {k R n c l m : Nat} {lo : Operand} (hT : P.underlying T = some (.slice E)) (hE : ∀ w, (sizeOf E).run P w = .ok k w) (hx : a.eval x = .slice (some ⟨R, 0, none⟩) n c) (hlo : a.eval lo = .int .i64 l) (hm : n = l + m) (h1 : 0 < m) (h2 : n ≤ c)
    (next : wpList P ops Q rest (a.put d (.slice (some ⟨R, l * k, none⟩) m (c - l))) w) (hgd : gOk gd ops a = true := by with_unfolding_all rfl) :
    wpList P ops Q ({ dst := d, op := .slice T x (some lo) none none, type := tt, pos := p, after := af, guard := gd } :: rest) a w :=
  wpList_ok hgd fun K hK => by
    have hr := run_sliceAt_sl (P := P) (w := w) hT (hE w) (some ⟨R, 0, none⟩) n c l n (some (.int .i64 l)) none (.inr rfl) (.inl ⟨rfl, rfl⟩) (by omega) h2
    rw [if_neg (by omega), show n - l = m by omega] at hr
    simp only [Option.map_some, add_none, Nat.zero_add] at hr
    unfold Oper.wp execOp
    simp only [Option.map_none, Option.map_some, hx, hlo, hr, Sem.run_bind, Sem.run_pure, Result.andThen_ok]
    exact hK _ _ next
/-- The last element is cleared. -/
theorem wps_clear1 {α : Type} {T E : TypeId} {enc : α → List Value} {k bytes R n c c' m : Nat} {xs : List α} (el : Elem P T E k bytes) (hk : ∀ x, (enc x).length = k) (hone : ∀ x, ∀ u ∈ enc x, u.oneCell' = true) (z0 : α) (hz : zeroIs P E k (enc z0)) (S : St G w0 w L) (i : Nat)
    (hi : L[i]? = some (Own E enc k (.slice (some ⟨R, 0, none⟩) n c) xs)) (o : Nat) (hx : a.eval x = .slice (some ⟨R, o, none⟩) 1 c') (ho : o = m * k) (hm : xs.length = m + 1)
    (next : ∀ w', St G w0 w' (L.set i (Own E enc k (.slice (some ⟨R, 0, none⟩) n c) (xs.set m z0))) → wpList P ops Q rest (a.put d (.tuple #[])) w') (hgd : gOk gd ops a = true := by with_unfolding_all rfl) :
    wpList P ops Q ({ dst := d, op := .call { callee := .builtin .clear, args := #[x], argTypes := #[T] }, type := tt, pos := p, after := af, guard := gd } :: rest) a w :=
  wpList_ok hgd fun K hK => by
    obtain ⟨F, hF⟩ := S.get hi
    obtain ⟨cur, hO, hn⟩ := own_at hF
    obtain ⟨ei, z, h⟩ := el
    obtain ⟨i', z', g1, g2, g3, g4, g5⟩ := hz
    have e1 : ei = i' := by have := h.info; rw [g1] at this; exact (Option.some.inj this).symm
    subst e1
    have e2 : z = z' := by have := h.zero; rw [g2] at this; exact (Option.some.inj this).symm
    subst e2
    have hfit := hO.fit (i := m) (by omega)
    obtain ⟨w', hr, hb, hKp⟩ := run_clear_one h (tt := tt) (R := R) (o := o) (c := c') (w := w) hO.heap (by rw [ho]; exact hfit) (by rw [g4]; exact hone z0)
    unfold Oper.wp execOp
    simp [resolve, invoke, builtin, hx, hr, Result.andThen]
    refine hK _ _ (next _ (own_put hk S i hi (by omega) z0 hO ?_ hKp))
    rw [hb, g4, ho]
/-- 's[:u]', in its place. -/
theorem wps_cutown {α : Type} {T E : TypeId} {enc : α → List Value} {k R n c u : Nat} {hi' : Operand} {xs : List α} (hk : ∀ x, (enc x).length = k) (hT : P.underlying T = some (.slice E)) (hE : ∀ w, (sizeOf E).run P w = .ok k w) (S : St G w0 w L) (i : Nat)
    (hi : L[i]? = some (Own E enc k (.slice (some ⟨R, 0, none⟩) n c) xs)) (hx : a.eval x = .slice (some ⟨R, 0, none⟩) n c) (hu : a.eval hi' = .int .i64 u) (h1 : u ≤ xs.length)
    (next : St G w0 w (L.set i (Own E enc k (.slice (some ⟨R, 0, none⟩) u c) (xs.take u))) → wpList P ops Q rest (a.put d (.slice (some ⟨R, 0, none⟩) u c)) w) (hgd : gOk gd ops a = true := by with_unfolding_all rfl) :
    wpList P ops Q ({ dst := d, op := .slice T x none (some hi') none, type := tt, pos := p, after := af, guard := gd } :: rest) a w :=
  wpList_ok hgd fun K hK => by
    obtain ⟨F0, hF0⟩ := S.get hi
    obtain ⟨cur, hO, hn⟩ := own_at hF0
    have hle := hO.le
    have hr := run_sliceAt_sl (P := P) (w := w) hT (hE w) (some ⟨R, 0, none⟩) n c 0 u none (some (.int .i64 u)) (.inl ⟨rfl, rfl⟩) (.inr rfl) (Nat.zero_le _) (by omega)
    have e : (if c = 0 then (some ⟨R, 0, none⟩ : Option Addr) else (some ⟨R, 0, none⟩ : Option Addr).map (·.add (0 * k))) = some ⟨R, 0, none⟩ := by simp [add_none]
    rw [e, Nat.sub_zero, Nat.sub_zero] at hr
    unfold Oper.wp execOp
    simp only [Option.map_none, Option.map_some, hx, hu, hr, Sem.run_bind, Sem.run_pure, Result.andThen_ok]
    refine hK _ _ (next (S.weak hi (fun _ => rfl) fun F hF => ⟨F, fun _ hb => hb, ?_, fun x => by rw [hF.2 x]; rfl⟩))
    obtain ⟨cur, hO, hn⟩ := own_at hF
    have := (hO.cut hk u h1).own hk
    rwa [show (xs.take u).length = u by rw [List.length_take]; omega] at this
end
end Go.Proofs.YthegonbbimmhhaaGreatDoor.Mem
/- Several results, of which some lie in cells. Over any program. -/
namespace Go.Proofs.YthegonbbimmhhaaGreatDoor.Mem
open Go Go.RowKit Reg

/-- What a result is. -/
def ResV (P : Program) (w : World) (tmps : Array Value) : ResultVar → Value → Prop
  | .tmp t, v => tmps.getD t undef = v
  | .cell q t, v => ∃ b, tmps.getD q undef = .pointer (some ⟨b, 0, none⟩) ∧ (loadVar t ⟨b, 0, none⟩).run P w = .ok v w
section
variable {P : Program} {fn : Func} {tmps : Array Value} {G : Nat → Prop} {w0 w : World} {L : List Asn} {r1 r2 r3 : ResultVar} {v1 v2 v3 : Value}
theorem results2 (h : fn.results = #[r1, r2]) (h1 : ResV P w tmps r1 v1) (h2 : ResV P w tmps r2 v2) : (results fn tmps).run P w = .ok (.tuple #[v1, v2]) w := by
  cases r1 <;> cases r2 <;> simp only [ResV, Array.getD_eq_getD_getElem?] at h1 h2
  · simp [results, h, h1, h2]
  · obtain ⟨b2, p2, l2⟩ := h2; simp [results, h, h1, p2, asAddr, l2]
  · obtain ⟨b1, p1, l1⟩ := h1; simp [results, h, h2, p1, asAddr, l1]
  · obtain ⟨b1, p1, l1⟩ := h1; obtain ⟨b2, p2, l2⟩ := h2; simp [results, h, p1, p2, asAddr, l1, l2]
theorem results3 (h : fn.results = #[r1, r2, r3]) (h1 : ResV P w tmps r1 v1) (h2 : ResV P w tmps r2 v2) (h3 : ResV P w tmps r3 v3) : (results fn tmps).run P w = .ok (.tuple #[v1, v2, v3]) w := by
  cases r1 <;> cases r2 <;> cases r3 <;> simp only [ResV, Array.getD_eq_getD_getElem?] at h1 h2 h3
  · simp [results, h, h1, h2, h3]
  · obtain ⟨b3, p3, l3⟩ := h3; simp [results, h, h1, h2, p3, asAddr, l3]
  · obtain ⟨b2, p2, l2⟩ := h2; simp [results, h, h1, h3, p2, asAddr, l2]
  · obtain ⟨b2, p2, l2⟩ := h2; obtain ⟨b3, p3, l3⟩ := h3; simp [results, h, h1, p2, p3, asAddr, l2, l3]
  · obtain ⟨b1, p1, l1⟩ := h1; simp [results, h, h2, h3, p1, asAddr, l1]
  · obtain ⟨b1, p1, l1⟩ := h1; obtain ⟨b3, p3, l3⟩ := h3; simp [results, h, h2, p1, p3, asAddr, l1, l3]
  · obtain ⟨b1, p1, l1⟩ := h1; obtain ⟨b2, p2, l2⟩ := h2; simp [results, h, h3, p1, p2, asAddr, l1, l2]
  · obtain ⟨b1, p1, l1⟩ := h1; obtain ⟨b2, p2, l2⟩ := h2; obtain ⟨b3, p3, l3⟩ := h3; simp [results, h, p1, p2, p3, asAddr, l1, l2, l3]
/-- A result that lies in a cell, whole. -/
theorem St.resA {sh : Bool} {b : Nat} {cs : Array Value} {t ty : TypeId} {q : Tmp} (S : St G w0 w L) (i : Nat) (hi : L[i]? = some (Blk sh b cs t)) (hp : tmps.getD q undef = .pointer (some ⟨b, 0, none⟩)) (hA : aggB P ty cs.size = true) : ResV P w tmps (.cell q ty) (.agg cs) := by
  refine ⟨b, hp, ?_⟩
  have hl := run_loadVar_agg (P := P) (t := ty) (b := b) (o := 0) (w := w) (vs := cs.toList) (by simpa using hA) (fun j u hj => by rw [Nat.zero_add, cell_of (S.blk i hi)]; simpa using hj)
  simpa using hl
theorem res_tmp {t : Tmp} {v : Value} (h : tmps.getD t undef = v) : ResV P w tmps (.tmp t) v := h
end
end Go.Proofs.YthegonbbimmhhaaGreatDoor.Mem
/- A region that draws its order, beside things that its hard operations turn. Over any program. -/
namespace Go.Proofs.YthegonbbimmhhaaGreatDoor.Mem
open Go Go.RowKit Reg
section
variable {P : Program} {ops : Array Oper} {Q : Exit → Act → World → Prop} {G : Nat → Prop} {w0 : World} {L : List Asn}
theorem wp_region_wt {id : Nat} {soft : List Nat} {a : Act} {w : World} {T : List Asn} (S : St G w0 w (L ++ T)) (hm : P.follows .mixedOrders = true) (hB : softB ops soft = true)
    (h : Softs P ops Q G w0 L (fun A => W P ops Q G w0 L (ops.size - soft.length) T (after soft (Array.replicate ops.size false)) A) soft a) : (Code.region id ops true).wp P Q a w := by
  simp only [softB, Bool.and_eq_true] at hB
  have hc : Closed .any ops (Array.replicate ops.size false) := fun j oj _ hl => by
    rw [Array.getD_eq_getD_getElem?] at hl
    by_cases hj : j < ops.size
    · rw [Array.getElem?_replicate, if_pos hj] at hl; cases hl
    · rw [Array.getElem?_replicate, if_neg hj] at hl; cases hl
  have hle := Nat.le_of_ble_eq_true hB.2
  have := W_softs hB.1.1 soft (ops.size - soft.length) T _ a hc hB.1.2 h
  rw [show ops.size - soft.length + soft.length = ops.size by omega] at this
  exact wp_region_any hm (W_any _ T _ a _ this (S.ext (keep_drew w)))
end
end Go.Proofs.YthegonbbimmhhaaGreatDoor.Mem

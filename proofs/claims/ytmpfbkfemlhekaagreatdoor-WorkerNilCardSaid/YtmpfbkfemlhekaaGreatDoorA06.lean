import Derived.Test.YtmpfbkfemlhekaaGreatDoorTie
import Derived.Test.YtmpfbkfemlhekaaGreatDoorCards
import Derived.Test.YtmpfbkfemlhekaaGreatDoorA01
import Derived.Test.YtmpfbkfemlhekaaGreatDoorA04
import Derived.Test.YtmpfbkfemlhekaaGreatDoorA05
import Derived.MakeChecks
import Derived.LaidMore
import Derived.Stop.Joined
import Derived.SevenTiedAt
import Derived.Test.YtmpfbkfemlhekaaGreatDoorA07
import Derived.Sort.Statements
import Derived.Test.YtmpfbkfemlhekaaGreatDoorA03
import Derived.Shelf.SlSortCmp.WholeK
import Derived.Shelf.SlSortCmp.Whole1
/- The table of ops, as the row's condition has it; and that the program's own door meets the condition. -/
namespace Go.Proofs.YtmpfbkfemlhekaaGreatDoor
open Go Go.ChangeShapes Go.WideShapes Go.ChangeAt Go.RowKit Mem

def tabLaid : List (String × DataW Unit) := [("boomerang/code.table", Rows.laid_boomerang_code_table)]
theorem door_met (os : Os) (args : Array Value) : laidMetH Tryz.prog tabLaid ((World.doorLaid Tryz.prog 59 os).forCall (fun _ _ => 0) ⟨#[], args, []⟩).memory :=
  laidMetH_of_parts3 (fuel := 8) (laidMet_of_run' 8 (by kernel_rfl) (by kernel_rfl)) (by kernel_rfl) (by kernel_rfl)
theorem gTable : Tryz.prog.globalNamed "boomerang/code.table" = some 0 := by kernel_rfl
theorem tTable : (Tryz.prog.globals[0]?).map (·.type) = some 359 := by kernel_rfl
theorem lay_some {P : Program} {t : TypeId} (h : (lay P 100 t).isSome = true) (h2 : P.cellsOf t = ((lay P 100 t).getD []).length) : ∃ ks, lay P 100 t = some ks ∧ P.cellsOf t = ks.length := by
  obtain ⟨ks, hk⟩ := Option.isSome_iff_exists.1 h
  exact ⟨ks, hk, by rw [h2, hk]; rfl⟩
set_option maxRecDepth 100000 in
theorem tab_of_laid {W : World} (h : laidMetH Tryz.prog tabLaid W) : Tab.at_ W (fun b => b = 0) := by
  rw [MakeChecks.laidMetH_plain _ _ _ (by kernel_rfl)] at h
  obtain ⟨ps, ⟨g0, t0, cs0, f0, p0, q0, hg0, ht0, hv0, hd0, _⟩, _⟩ := h
  obtain rfl := Option.some.inj (gTable.symm.trans hg0)
  obtain rfl := Option.some.inj (tTable.symm.trans ht0)
  obtain ⟨ks, hk, hc⟩ := lay_some (P := Tryz.prog) (t := 359) (by kernel_rfl) (by kernel_rfl)
  have e := trod_cells 100 359 ks hk hc _ _ _ hd0
  have e2 : cellsD 100 (Rows.laid_boomerang_code_table : DataW Unit) = flatE About.cells table := by kernel_rfl
  have e3 : cs0.toList = flatE About.cells table := e.trans e2
  have hcell : ∀ i, W.cell? ⟨0, i, none⟩ = (flatE About.cells table)[i]? := fun i => by
    rw [World.var?_cell gTable hv0 i, ← e3, Array.getElem?_toList]
  have acells : ∀ x : About, x.cells.length = 6 := fun _ => rfl
  refine ⟨⟨some ⟨0, 0, none⟩, 16, rfl, by rw [table_len]; exact Nat.le_refl _, (fun h => by cases h), fun i x hi => ⟨0, 0, rfl, rfl, fun j u hj => ?_⟩⟩, fun b hb => ?_⟩
  · have hj6 : j < 6 := by rw [← acells x]; exact (List.getElem?_eq_some_iff.1 hj).1
    rw [hcell, Nat.zero_add, flatE_get acells hi j hj6]
    exact hj
  · subst hb
    have h0 := hcell 0
    cases hz : W.heap[0]? with
    | none => exfalso; simp only [World.cell?, hz] at h0; exact absurd h0 (by rw [flatE_get acells (i := 0) (x := table[0]) rfl 0 (by decide)]; simp [About.cells])
    | some o => exact (Array.getElem?_eq_some_iff.1 hz).1
end Go.Proofs.YtmpfbkfemlhekaaGreatDoor
/- Two things that are owned, as one; a new model out of its parts. -/
namespace Go.Proofs.YtmpfbkfemlhekaaGreatDoor
open Go Go.RowKit Mem

theorem loc_of {A : Asn} {w w' : World} {F F1 : Nat → Prop} (h : A.at_ w F1) (hF : ∀ b, F1 b → F b) (hb : ∀ b, F b → w'.heap[b]? = w.heap[b]?) : A.at_ w' F1 := A.loc h fun b h => hb b (hF b h)
def Both (A B : Asn) : Asn where
  sh := false
  at_ w F := ∃ F1 F2, A.at_ w F1 ∧ B.at_ w F2 ∧ ∀ b, F b ↔ F1 b ∨ F2 b
  loc h hb := let ⟨F1, F2, h1, h2, h3⟩ := h; ⟨F1, F2, loc_of h1 (fun b h => (h3 b).2 (.inl h)) hb, loc_of h2 (fun b h => (h3 b).2 (.inr h)) hb, h3⟩
  lt h b hb := let ⟨_, _, h1, h2, h3⟩ := h; ((h3 b).1 hb).elim (A.lt h1 b) (B.lt h2 b)
section
variable {G : Nat → Prop} {w0 w : World} {L : List Asn} {A B : Asn}
theorem Mem.St.both (S : St G w0 w (A :: B :: L)) (hA : A.sh = false) (hB : B.sh = false) : St G w0 w (Both A B :: L) :=
  S.merge _ hA hB rfl fun F F' h h' => ⟨F, F', h, h', fun _ => Iff.rfl⟩
theorem Mem.St.modNew {T : TypeId} {R : Nat} {vP vL vS : Value} {hs : List Value} {ps : List (List Instr)} {ls : List Place} {ss : List Start} {fin fuel fan : Int}
    (S : St G w0 w (Blk false R #[vP, vL, vS, .int .i64 fin, .int .i64 fuel, .int .i64 fan] T :: Sl false vcell 1 vP hs :: Sl false Place.cells 5 vL ls :: Sl false Start.cells 4 vS ss :: Sls false Instr.cells 5 hs ps :: L)) :
    St G w0 w (ModA false T R [vP, vL, vS, .int .i64 fin, .int .i64 fuel, .int .i64 fan] hs ⟨ps, ls, ss, fin, fuel, fan⟩ :: L) := by
  have S1 := (((S.both rfl rfl).both rfl rfl).both rfl rfl).both rfl rfl
  have := S1.weak (i := 0) (A' := ModA false T R [vP, vL, vS, .int .i64 fin, .int .i64 fuel, .int .i64 fan] hs ⟨ps, ls, ss, fin, fuel, fan⟩) rfl (fun _ => rfl) fun F h => ?_
  · simpa using this
  · obtain ⟨F1, F2, ⟨F3, F4, ⟨F5, F6, ⟨F7, F8, h1, h2, e4⟩, h3, e3⟩, h4, e2⟩, h5, e1⟩ := h
    have i1 : ∀ b, F7 b → F b := fun b h => (e1 b).2 (.inl ((e2 b).2 (.inl ((e3 b).2 (.inl ((e4 b).2 (.inl h)))))))
    have i2 : ∀ b, F8 b → F b := fun b h => (e1 b).2 (.inl ((e2 b).2 (.inl ((e3 b).2 (.inl ((e4 b).2 (.inr h)))))))
    have i3 : ∀ b, F6 b → F b := fun b h => (e1 b).2 (.inl ((e2 b).2 (.inl ((e3 b).2 (.inr h)))))
    have i4 : ∀ b, F4 b → F b := fun b h => (e1 b).2 (.inl ((e2 b).2 (.inr h)))
    have i5 : ∀ b, F2 b → F b := fun b h => (e1 b).2 (.inr h)
    refine ⟨F, fun _ h => h, ⟨⟨h1.1, i1 R ((h1.2 R).2 rfl), ⟨⟨vP, vL, vS, rfl, h2.1.mono i2, h3.1.mono i3, h4.1.mono i4⟩, h5.1.mono i5⟩⟩, fun b hb => ?_⟩⟩
    rcases (e1 b).1 hb with h | h
    · rcases (e2 b).1 h with h | h
      · rcases (e3 b).1 h with h | h
        · rcases (e4 b).1 h with h | h
          · exact (Blk false R _ T).lt h1 b h
          · exact h2.2 b h
        · exact h3.2 b h
      · exact h4.2 b h
    · exact h5.2 b h
end
theorem firstE_mem (l : List Int) : firstE l = 0 ∨ firstE l ∈ l := by
  induction l with
  | nil => simp [firstE]
  | cons x l ih => by_cases h : x = 0 <;> simp [firstE, h]; exact ih.elim .inl fun h => .inr h
theorem hset {l m : List Value} {x y : Value} {k : Nat} (h : k = l.length) : (l ++ x :: m).set k y = (l ++ [y]) ++ m := by subst h; simp
end Go.Proofs.YtmpfbkfemlhekaaGreatDoor
/- Opening a configuration that came in. -/
namespace Go.Proofs.YtmpfbkfemlhekaaGreatDoor
open Go Go.ChangeShapes Go.WideShapes Go.ChangeAt Go.RowKit Mem

abbrev i5 : List TypeDesc := [.int .i64, .int .i64, .int .i64, .int .i64, .int .i64]
section
variable {H : Type} {enc : TypeId × Value → H} {w : World} {base : Nat} {spare : Nat → Bool} {held : Bool}
structure Wide (c : Cfg) : Prop where
  p : c.programs.length ≤ maxLen
  q : ∀ x ∈ c.programs, x.length ≤ maxLen
  l : c.lps.length ≤ maxLen
  s : c.starts.length ≤ maxLen
end
end Go.Proofs.YtmpfbkfemlhekaaGreatDoor
/- Plain: the total order of events (by key, then by process, kind and data); a list sorted by it; events of one key counted once. No program in sight. -/
namespace Go.Proofs.YtmpfbkfemlhekaaGreatDoor
open Go

def Event.tup (e : Event) : Int × Int × Int × Int × Int × Int × Int := (e.key.at_, e.key.src, e.key.sent, e.key.no, e.dst, e.kind, e.data)
def evLt (a b : Event) : Prop :=
  a.key.at_ < b.key.at_ ∨ (a.key.at_ = b.key.at_ ∧ (a.key.src < b.key.src ∨ (a.key.src = b.key.src ∧ (a.key.sent < b.key.sent ∨ (a.key.sent = b.key.sent ∧ (a.key.no < b.key.no ∨ (a.key.no = b.key.no ∧
    (a.dst < b.dst ∨ (a.dst = b.dst ∧ (a.kind < b.kind ∨ (a.kind = b.kind ∧ a.data < b.data)))))))))))
instance (a b : Event) : Decidable (evLt a b) := by unfold evLt; infer_instance
theorem evLt_irrefl (a : Event) : ¬ evLt a a := by unfold evLt; omega
theorem evLt_trans {a b c : Event} (h : evLt a b) (k : evLt b c) : evLt a c := by unfold evLt at *; omega
theorem evLt_total {a b : Event} (h : ¬ evLt a b) (k : ¬ evLt b a) : a = b := by
  obtain ⟨⟨a1, a2, a3, a4⟩, a5, a6, a7⟩ := a; obtain ⟨⟨b1, b2, b3, b4⟩, b5, b6, b7⟩ := b
  unfold evLt at *
  simp only [Event.mk.injEq, Key.mk.injEq] at *
  omega
def insTot (x : Event) : List Event → List Event
  | [] => [x]
  | y :: l => if evLt x y then x :: y :: l else y :: insTot x l
def sortT (l : List Event) : List Event := l.foldl (fun s x => insTot x s) []
theorem insTot_perm (x : Event) : ∀ l, (insTot x l).Perm (x :: l)
  | [] => .refl _
  | y :: l => by
    unfold insTot
    split
    · exact .refl _
    · exact ((insTot_perm x l).cons y).trans (.swap x y l)
def UpT (l : List Event) : Prop := l.Pairwise fun a b => ¬ evLt b a
theorem insTot_up (x : Event) : ∀ l, UpT l → UpT (insTot x l)
  | [], _ => by simp [insTot, UpT]
  | y :: l, h => by
    have h' := List.pairwise_cons.1 h
    unfold insTot
    split
    · rename_i hxy
      refine List.pairwise_cons.2 ⟨fun z hz => ?_, h⟩
      rcases List.mem_cons.1 hz with rfl | hz
      · exact fun k => evLt_irrefl _ (evLt_trans hxy k)
      · intro k
        exact h'.1 z hz (evLt_trans k hxy)
    · rename_i hxy
      refine List.pairwise_cons.2 ⟨fun z hz => ?_, insTot_up x l h'.2⟩
      rcases List.mem_cons.1 ((insTot_perm x l).mem_iff.1 hz) with rfl | hz
      · exact hxy
      · exact h'.1 z hz
theorem foldT_perm : ∀ (l s : List Event), (l.foldl (fun s x => insTot x s) s).Perm (l ++ s)
  | [], _ => .refl _
  | x :: l, s => (foldT_perm l (insTot x s)).trans (((insTot_perm x s).append_left l).trans List.perm_middle)
theorem foldT_up : ∀ (l s : List Event), UpT s → UpT (l.foldl (fun s x => insTot x s) s)
  | [], _, h => h
  | x :: l, _, h => foldT_up l _ (insTot_up x _ h)
theorem sortT_perm (l : List Event) : (sortT l).Perm l := (foldT_perm l []).trans (by rw [List.append_nil])
theorem sortT_up (l : List Event) : UpT (sortT l) := foldT_up l [] List.Pairwise.nil
theorem upT_eq {l m : List Event} (hp : l.Perm m) (hl : UpT l) (hm : UpT m) : l = m :=
  hp.eq_of_pairwise (fun _ _ _ _ h k => (evLt_total k h)) hl hm
def onceFrom : Option Key → List Event → List Event
  | _, [] => []
  | k, x :: l => if k = some x.key then onceFrom k l else x :: onceFrom (some x.key) l
def once (l : List Event) : List Event := onceFrom none l
end Go.Proofs.YtmpfbkfemlhekaaGreatDoor
/- Plain: where an event stands in a sorted list, or would stand; put in, and taken out. No program in sight. -/
namespace Go.Proofs.YtmpfbkfemlhekaaGreatDoor
open Go

def plT (l : List Event) (e : Event) : Nat := (l.takeWhile fun x => decide (evLt x e)).length
theorem plT_le (l : List Event) (e : Event) : plT l e ≤ l.length := by
  unfold plT
  exact (List.takeWhile_prefix _).length_le
theorem plT_at : ∀ {l : List Event} {e : Event} {n : Nat}, n ≤ l.length → (∀ (k : Nat) x, k < n → l[k]? = some x → evLt x e) → (∀ (k : Nat) x, n ≤ k → l[k]? = some x → ¬ evLt x e) → n = plT l e
  | [], e, n, hn, _, _ => by simp at hn; simp [plT, hn]
  | a :: l, e, 0, _, _, h2 => by
    have := h2 0 a (Nat.le_refl _) rfl
    simp [plT, this]
  | a :: l, e, n + 1, hn, h1, h2 => by
    have ha := h1 0 a (by omega) rfl
    have := plT_at (l := l) (e := e) (n := n) (by simpa using hn) (fun k x hk hx => h1 (k + 1) x (by omega) (by simpa using hx)) (fun k x hk hx => h2 (k + 1) x (by omega) (by simpa using hx))
    simp only [plT, List.takeWhile_cons, ha, decide_true, if_true, List.length_cons] at *
    omega
theorem plT_lt : ∀ {l : List Event} {e : Event} {k : Nat} {x : Event}, k < plT l e → l[k]? = some x → evLt x e
  | [], _, k, x, _, hx => by simp at hx
  | a :: l, e, k, x, hk, hx => by
    by_cases ha : evLt a e
    · have e1 : plT (a :: l) e = plT l e + 1 := by simp [plT, ha]
      cases k with
      | zero => simp at hx; subst hx; exact ha
      | succ k => exact plT_lt (l := l) (k := k) (by omega) (by simpa using hx)
    · have e1 : plT (a :: l) e = 0 := by simp [plT, ha]
      omega
theorem plT_ge {l : List Event} {e : Event} (hl : UpT l) : ∀ {k : Nat} {x : Event}, plT l e ≤ k → l[k]? = some x → ¬ evLt x e := by
  induction l with
  | nil => intro k x _ hx; simp at hx
  | cons a l ih =>
    intro k x hk hx
    have h' := List.pairwise_cons.1 hl
    by_cases ha : evLt a e
    · have e1 : plT (a :: l) e = plT l e + 1 := by simp [plT, ha]
      cases k with
      | zero => omega
      | succ k => exact ih h'.2 (k := k) (by omega) (by simpa using hx)
    · cases k with
      | zero => simp at hx; subst hx; exact ha
      | succ k =>
        intro hxe
        have hx2 : x ∈ l := List.mem_of_getElem? (by simpa using hx)
        rcases Classical.em (evLt e a) with h | h
        · exact h'.1 x hx2 (evLt_trans hxe h)
        · have := evLt_total ha h; subst this; exact h'.1 x hx2 hxe
theorem plT_mem {l : List Event} {e : Event} (hl : UpT l) : e ∈ l ↔ l[plT l e]? = some e := by
  refine ⟨fun h => ?_, fun h => List.mem_of_getElem? h⟩
  obtain ⟨i, hi, hx⟩ := List.mem_iff_getElem.1 h
  have hx2 : l[i]? = some e := by rw [List.getElem?_eq_getElem hi, hx]
  have hge : plT l e ≤ i := by
    rcases Nat.lt_or_ge i (plT l e) with h | h
    · exact absurd (plT_lt h hx2) (evLt_irrefl e)
    · exact h
  have hlt : plT l e < l.length := by omega
  have hy : l[plT l e]? = some l[plT l e] := List.getElem?_eq_getElem hlt
  have h1 := plT_ge hl (Nat.le_refl _) hy
  have h2 : ¬ evLt e l[plT l e] := by
    rcases Nat.lt_or_eq_of_le hge with h | h
    · have := (List.pairwise_iff_getElem.1 hl) (plT l e) i hlt hi h
      rw [hx] at this; exact this
    · have e1 : l[plT l e] = e := Option.some.inj (hy.symm.trans (by rw [h]; exact hx2))
      rw [e1]; exact evLt_irrefl e
  rw [hy, evLt_total h1 h2]
theorem ins_plT {l : List Event} (e : Event) (hl : UpT l) : l.take (plT l e) ++ e :: l.drop (plT l e) = insTot e l := by
  refine upT_eq ?_ ?_ (insTot_up e l hl)
  · refine List.perm_middle.trans ?_
    rw [List.take_append_drop]
    exact (insTot_perm e l).symm
  · refine List.pairwise_append.2 ⟨hl.sublist (List.take_sublist _ _), List.pairwise_cons.2 ⟨fun y hy => ?_, hl.sublist (List.drop_sublist _ _)⟩, fun x hx y hy => ?_⟩
    · obtain ⟨i, hi, e1⟩ := List.mem_iff_getElem.1 hy
      exact plT_ge (e := e) hl (k := plT l e + i) (by omega) (by rw [← List.getElem?_drop, List.getElem?_eq_getElem hi, e1])
    · obtain ⟨i, hi, e1⟩ := List.mem_iff_getElem.1 hx
      rw [List.length_take] at hi
      have hxe : evLt x e := plT_lt (l := l) (k := i) (by omega) (by rw [← e1, List.getElem_take, List.getElem?_eq_getElem (by omega)])
      rcases List.mem_cons.1 hy with rfl | hy
      · exact fun h => evLt_irrefl _ (evLt_trans h hxe)
      · obtain ⟨j, hj, e2⟩ := List.mem_iff_getElem.1 hy
        have hye : ¬ evLt y e := plT_ge hl (k := plT l e + j) (x := y) (by omega) (by rw [← List.getElem?_drop, List.getElem?_eq_getElem hj, e2])
        exact fun h => hye (evLt_trans h hxe)
end Go.Proofs.YtmpfbkfemlhekaaGreatDoor
/- The walks of cmp.Compare and cmp.Or at ints (beside C2). -/
namespace Go.Proofs.YtmpfbkfemlhekaaGreatDoor
open Go Go.RowKit Reg Mem

set_option maxRecDepth 100000 in
theorem elem_Int : Elem Tryz.prog 37 3 1 8 := ⟨_, .int .i64 0, Tryz.underlying37, rfl, by kernel_rfl, by kernel_rfl, by kernel_rfl, by kernel_rfl, by omega⟩
theorem isNaN_calls (x : Int) (w : World) : Calls Tryz.prog 202 #[.int .i64 x] w fun r w' => r = .returned (.bool false) ∧ Below w.heap.size w w' := by
  have S := St.init (fun _ => False) w
  go_enter Tryz.func202, Tryz.ntmps202
  go_wp2_with first | ((with_reducible refine tot_done ?ht ?_); (case ht => kernel_rfl))
  go_ret
  exact ⟨by simp, S.below⟩
def icmp (x y : Int) : Int := if x < y then -1 else if y < x then 1 else 0
theorem cmpInt_calls (x y : Int) (w : World) : Calls Tryz.prog 152 #[.int .i64 x, .int .i64 y] w fun r w' => r = .returned (.int .i64 (icmp x y)) ∧ Below w.heap.size w w' := by
  have S := St.init (fun _ => False) w
  by_cases h1 : x < y
  · go_enter Tryz.func152, Tryz.ntmps152
    go_wp2_with first | (go_at_call 202; refine Calls.mono (isNaN_calls _ _) ?_; rintro e wz ⟨rfl, hE⟩; replace S := S.ext (Keep.of_below hE); clear hE) | ((with_reducible refine tot_done ?ht ?_); (case ht => kernel_rfl))
    go_ret
    exact ⟨ret_int (by unfold icmp; rw [if_pos (by omega)]), S.below⟩
  · by_cases h2 : y < x
    · go_enter Tryz.func152, Tryz.ntmps152
      go_wp2_with first | (go_at_call 202; refine Calls.mono (isNaN_calls _ _) ?_; rintro e wz ⟨rfl, hE⟩; replace S := S.ext (Keep.of_below hE); clear hE) | ((with_reducible refine tot_done ?ht ?_); (case ht => kernel_rfl))
      go_ret
      exact ⟨ret_int (by unfold icmp; rw [if_neg (by omega), if_pos (by omega)]), S.below⟩
    · go_enter Tryz.func152, Tryz.ntmps152
      go_wp2_with first | (go_at_call 202; refine Calls.mono (isNaN_calls _ _) ?_; rintro e wz ⟨rfl, hE⟩; replace S := S.ext (Keep.of_below hE); clear hE) | ((with_reducible refine tot_done ?ht ?_); (case ht => kernel_rfl))
      go_ret
      exact ⟨ret_int (by unfold icmp; rw [if_neg (by omega), if_neg (by omega)]), S.below⟩
def orL : List Int → Int
  | [] => 0
  | x :: l => if x ≠ 0 then x else orL l
theorem orL_at {l : List Int} {j : Nat} {x : Int} (h : ∀ (q : Nat) y, q < j → l[q]? = some y → y = 0) (hj : l[j]? = some x) (hx : x ≠ 0) : orL l = x := by
  induction l generalizing j with
  | nil => simp at hj
  | cons a l ih =>
    cases j with
    | zero => simp at hj; subst hj; simp [orL, hx]
    | succ j =>
      have ha := h 0 a (by omega) rfl
      rw [orL, if_neg (by simp [ha])]
      exact ih (j := j) (fun q y hq hy => h (q + 1) y (by omega) (by simpa using hy)) (by simpa using hj)
theorem orL_zero {l : List Int} (h : ∀ (q : Nat) y, l[q]? = some y → y = 0) : orL l = 0 := by
  induction l with
  | nil => rfl
  | cons a l ih =>
    have ha := h 0 a rfl
    rw [orL, if_neg (by simp [ha])]
    exact ih (fun q y hy => h (q + 1) y (by simpa using hy))
def OrRel (ad : Option Addr) (c : Nat) (l : List Int) (w : World) (i : Value) (wr : World) : Prop :=
  ∃ j : Nat, j ≤ l.length ∧ i = .int .i64 j ∧ (∀ (q : Nat) y, q < j → l[q]? = some y → y = 0) ∧ St (fun _ => False) w wr [Sl true intE 1 (.slice ad l.length c) l]
theorem orInt_calls (v : Value) (l : List Int) (w : World) (F : Nat → Prop) (h : (Sl true intE 1 v l).at_ w F) (hn : l.length ≤ 4294967296) : Calls Tryz.prog 151 #[v] w fun r w' => r = .returned (.int .i64 (orL l)) ∧ Below w.heap.size w w' := by
  have S : St (fun _ => False) w w [Sl true intE 1 v l] := (St.init _ w).share rfl rfl h
  obtain ⟨F1, hs⟩ := S.sl 0 rfl
  obtain ⟨ad, cp, rfl, _⟩ := hs.form
  clear hs
  go_enter Tryz.func151, Tryz.ntmps151
  go_wp2_with first | ((with_reducible refine tot_done ?ht ?_); (case ht => kernel_rfl)) | ((with_reducible apply wps_load S 0); (case hx | hi | hu => rfl); (case hT => decide +kernel)) | ((with_reducible apply wps_load S 1); (case hx | hi | hu => rfl); (case hT => decide +kernel)) | ((with_reducible apply wps_load S 2); (case hx | hi | hu => rfl); (case hT => decide +kernel)) | ((with_reducible apply wps_load S 3); (case hx | hi | hu => rfl); (case hT => decide +kernel))
  go_loopw [8] (fun i wr => OrRel ad cp l w i wr) (fun i _ => l.length - (intOf i).toNat)
  case atStart => exact ⟨0, Nat.zero_le _, rfl, fun q r h => by omega, S⟩
  case round =>
    clear S
    obtain ⟨j, hj, rfl, hz, S⟩ := hrel
    have Hz := Lib.hid hz
    clear hz
    by_cases hlt : j < l.length
    · obtain ⟨x, hx⟩ : ∃ x, l[j]? = some x := ⟨_, List.getElem?_eq_getElem hlt⟩
      obtain ⟨R, o, rfl⟩ : ∃ R o, ad = some ⟨R, o, none⟩ := (S.sl 0 rfl).elim fun F h => h.head (Nat.zero_lt_of_lt hlt)
      have hlt2 : (j : Int) < l.length := by omega
      have Hx := Lib.hid hx
      clear hx
      by_cases h0 : x = 0
      · go_wp2_with first | ((with_reducible apply wps_load_el S 0 (hj := Hx.out) (q := 0) (u := .int .i64 x)); (case hx | hi => rfl); (case hn => omega); (case hu => rfl); (case hT => decide +kernel)) | ((with_reducible refine tot_done ?ht ?_); (case ht => kernel_rfl)) | ((with_reducible apply wps_load S 0); (case hx | hi | hu => rfl); (case hT => decide +kernel)) | ((with_reducible apply wps_load S 1); (case hx | hi | hu => rfl); (case hT => decide +kernel)) | ((with_reducible apply wps_load S 2); (case hx | hi | hu => rfl); (case hT => decide +kernel)) | ((with_reducible apply wps_load S 3); (case hx | hi | hu => rfl); (case hT => decide +kernel))
        go_roundw
        case rel =>
          refine ⟨j + 1, by omega, by go_num, fun q r hq hr => ?_, S⟩
          by_cases e : q = j
          · subst e; rw [Hx.out] at hr; cases hr; exact h0
          · exact Hz.out q r (by omega) hr
        case measure => simp [intOf]; omega
      · go_wp2_with first | ((with_reducible apply wps_load_el S 0 (hj := Hx.out) (q := 0) (u := .int .i64 x)); (case hx | hi => rfl); (case hn => omega); (case hu => rfl); (case hT => decide +kernel)) | ((with_reducible refine tot_done ?ht ?_); (case ht => kernel_rfl)) | ((with_reducible apply wps_load S 0); (case hx | hi | hu => rfl); (case hT => decide +kernel)) | ((with_reducible apply wps_load S 1); (case hx | hi | hu => rfl); (case hT => decide +kernel)) | ((with_reducible apply wps_load S 2); (case hx | hi | hu => rfl); (case hT => decide +kernel)) | ((with_reducible apply wps_load S 3); (case hx | hi | hu => rfl); (case hT => decide +kernel))
        go_ret
        exact ⟨ret_int (orL_at Hz.out Hx.out h0).symm, S.below⟩
    · obtain rfl : j = l.length := by omega
      go_wp2_with first | ((with_reducible refine tot_done ?ht ?_); (case ht => kernel_rfl)) | ((with_reducible apply wps_load S 0); (case hx | hi | hu => rfl); (case hT => decide +kernel)) | ((with_reducible apply wps_load S 1); (case hx | hi | hu => rfl); (case hT => decide +kernel)) | ((with_reducible apply wps_load S 2); (case hx | hi | hu => rfl); (case hT => decide +kernel)) | ((with_reducible apply wps_load S 3); (case hx | hi | hu => rfl); (case hT => decide +kernel))
      go_ret
      exact ⟨ret_int (orL_zero fun q y hy => Hz.out q y (List.getElem?_eq_some_iff.1 hy).1 hy).symm, S.below⟩
end Go.Proofs.YtmpfbkfemlhekaaGreatDoor
/- The order of keys, plain. -/
namespace Go.Proofs.YtmpfbkfemlhekaaGreatDoor
open Go.Sort

theorem Key.lt_iff (k l : Key) : k.lt l = true ↔ k.at_ < l.at_ ∨ (k.at_ = l.at_ ∧ (k.src < l.src ∨ (k.src = l.src ∧ (k.sent < l.sent ∨ (k.sent = l.sent ∧ k.no < l.no))))) := by
  unfold Key.lt
  split
  · simp; omega
  · split
    · simp; omega
    · split
      · simp; omega
      · simp; omega
end Go.Proofs.YtmpfbkfemlhekaaGreatDoor
/- The library's slices.SortFunc on a slice that is owned, as a step of the state. Over any program. -/
namespace Go.Proofs.YtmpfbkfemlhekaaGreatDoor.Mem
open Go Go.RowKit Reg Go.Shelf Go.Sort

def Grew (w w' : World) : Prop := ∃ q os, w' = grow (w.drewN q) os
theorem heap_grow (w : World) (os : Array Obj) {b : Nat} (hb : b < w.heap.size) : (grow w os).heap[b]? = w.heap[b]? := by
  show (w.heap ++ os)[b]? = _
  rw [Array.getElem?_append_left hb]
section
variable {α : Type} [Inhabited α]
theorem putCells_take {enc : α → Value} {d : Array α} {c : Array Value} (h : d.size ≤ c.size) : (putCells enc 0 d c).toList.take d.size = d.toList.map enc := by
  apply List.ext_getElem?
  intro i
  by_cases hi : i < d.size
  · rw [List.getElem?_take_of_lt hi, Array.getElem?_toList, List.getElem?_map, Array.getElem?_toList, Array.getElem?_eq_getElem hi]
    simp only [putCells, Array.getElem?_mapIdx, Array.getElem?_eq_getElem (show i < c.size by omega), Option.map_some, Nat.zero_le, Nat.zero_add, true_and, if_pos hi, Nat.sub_zero, getElem!_pos d i hi]
  · rw [List.getElem?_eq_none (by simp; omega), List.getElem?_eq_none (by simp; omega)]
theorem size_putCells {enc : α → Value} {d : Array α} {c : Array Value} {o : Nat} : (putCells enc o d c).size = c.size := by simp [putCells]
theorem heap_putRow {enc : α → Value} {w : World} {R m o : Nat} {d : Array α} {cur : Array Value} {E : TypeId} {fr : Nat × Nat} (os : Array Obj) (hR : w.heap[R]? = some (.cells cur E fr)) :
    (grow (putRow enc (Sort.ahead w m) R o d) os).heap[R]? = some (.cells (putCells enc o d cur) E fr) := by
  have hl := (Array.getElem?_eq_some_iff.1 hR).1
  rw [heap_grow _ _ (by rw [size_putRow]; exact hl)]
  show (w.heap.modify R (onCells (putCells enc o d)))[R]? = _
  rw [Array.getElem?_modify, if_pos rfl, hR]; rfl
theorem keep_putRow {enc : α → Value} {w : World} {R m o : Nat} {d : Array α} (os : Array Obj) : Keep (fun b => b = R) w (grow (putRow enc (Sort.ahead w m) R o d) os) := by
  refine ⟨rfl, rfl, rfl, ?_, fun b hb hn => ?_, Nat.le_add_right _ _⟩
  · show w.heap.size ≤ ((w.heap.modify R _) ++ os).size
    simp
  · rw [heap_grow _ _ (by rw [size_putRow]; exact hb)]
    show (w.heap.modify R _)[b]? = _
    rw [Array.getElem?_modify, if_neg (fun e => hn e.symm)]
end

section
variable {P : Program} {ρ : Ren} {α : Type} [Inhabited α] {E : TypeId} {enc : α → List Value} {k : Nat} {G : Nat → Prop} {w0 w : World} {L : List Asn} {i : Nat}
end
end Go.Proofs.YtmpfbkfemlhekaaGreatDoor.Mem
/- The walk of inq.Compare: a total order of events. -/
namespace Go.Proofs.YtmpfbkfemlhekaaGreatDoor
open Go.RowKit Reg Mem Go.Sort

def Event.tcmp (a b : Event) : Int := if a.key.lt b.key then -1 else if b.key.lt a.key then 1 else orL [icmp a.dst b.dst, icmp a.kind b.kind, icmp a.data b.data]
theorem bef_is {a b : Key} {v : Bool} (h : a.lt b = v) (w : World) : Calls Tryz.prog 150 #[.agg #[.int .i64 a.at_, .int .i64 a.src, .int .i64 a.sent, .int .i64 a.no], .agg #[.int .i64 b.at_, .int .i64 b.src, .int .i64 b.sent, .int .i64 b.no]] w fun e w' => e = .returned (.bool v) ∧ Below w.heap.size w w' := by
  subst h; exact before_calls _ _ _ _ _ _ _ _ _
set_option maxRecDepth 100000 in
set_option maxHeartbeats 4000000 in
theorem icmpare_calls (a b : Event) (w : World) : Calls Tryz.prog 88 #[.agg #[.int .i64 a.key.at_, .int .i64 a.key.src, .int .i64 a.key.sent, .int .i64 a.key.no, .int .i64 a.dst, .int .i64 a.kind, .int .i64 a.data], .agg #[.int .i64 b.key.at_, .int .i64 b.key.src, .int .i64 b.key.sent, .int .i64 b.key.no, .int .i64 b.dst, .int .i64 b.kind, .int .i64 b.data]] w fun e w' => e = .returned (.int .i64 (a.tcmp b)) ∧ Below w.heap.size w w' := by
  have S := St.init (fun _ => False) w
  cases h1 : a.key.lt b.key with
  | true =>
    have H1 := Lib.hid (bef_is h1)
    go_enter Tryz.func88, Tryz.ntmps88
    go_wp2_with first | (go_at_call 150; have hcz := fun w => H1.out w; (with_reducible refine Calls.mono (hcz _) ?_); clear hcz; rintro e wz ⟨rfl, hE⟩; replace S := S.ext (Keep.of_below hE); clear hE) | ((with_reducible refine tot_done ?ht ?_); (case ht => kernel_rfl)) | ((with_reducible apply wps_text S); (case hm => kernel_rfl); (case hB => decide +kernel); clear S; intro wz S) | ((with_reducible apply wps_boxa S); (case hx => rfl); clear S; intro bz wz S) | ((with_reducible apply wps_box1 (v := .int _ _) S); (case hx | h1 => rfl); clear S; intro bz wz S) | ((with_reducible apply wps_box1 (v := .bool _) S); (case hx | h1 => rfl); clear S; intro bz wz S) | ((with_reducible apply wps_box1 (v := .slice _ _ _) S); (case hx | h1 => rfl); clear S; intro bz wz S) | ((with_reducible apply wps_box1 (v := .pointer _) S); (case hx | h1 => rfl); clear S; intro bz wz S) | ((with_reducible apply wps_box1 (v := .map _) S); (case hx | h1 => rfl); clear S; intro bz wz S) | ((with_reducible apply wps_box1 (v := .string _) S); (case hx | h1 => rfl); clear S; intro bz wz S) | ((with_reducible apply wps_box1 (v := .func _ _ _) S); (case hx | h1 => rfl); clear S; intro bz wz S) | ((with_reducible apply wps_load S 0); (case hx | hi | hu => rfl); (case hT => decide +kernel)) | ((with_reducible apply wps_loada (T := 46) (k := 4) S 0); (case hx | hi => rfl); (case hk => exact Nat.le_of_ble_eq_true rfl); (case hT => decide +kernel)) | ((with_reducible apply wps_load S 1); (case hx | hi | hu => rfl); (case hT => decide +kernel)) | ((with_reducible apply wps_loada (T := 46) (k := 4) S 1); (case hx | hi => rfl); (case hk => exact Nat.le_of_ble_eq_true rfl); (case hT => decide +kernel)) | ((with_reducible apply wps_load S 2); (case hx | hi | hu => rfl); (case hT => decide +kernel)) | ((with_reducible apply wps_loada (T := 46) (k := 4) S 2); (case hx | hi => rfl); (case hk => exact Nat.le_of_ble_eq_true rfl); (case hT => decide +kernel)) | ((with_reducible apply wps_load S 3); (case hx | hi | hu => rfl); (case hT => decide +kernel)) | ((with_reducible apply wps_loada (T := 46) (k := 4) S 3); (case hx | hi => rfl); (case hk => exact Nat.le_of_ble_eq_true rfl); (case hT => decide +kernel))
    go_ret
    exact ⟨ret_int (by unfold Event.tcmp; rw [if_pos h1]), S.below⟩
  | false =>
    have H1 := Lib.hid (bef_is h1)
    cases h2 : b.key.lt a.key with
    | true =>
      have H2 := Lib.hid (bef_is h2)
      go_enter Tryz.func88, Tryz.ntmps88
      go_wp2_with first | (go_at_call 150; have hcz := fun w => H1.out w; (with_reducible refine Calls.mono (hcz _) ?_); clear hcz; rintro e wz ⟨rfl, hE⟩; replace S := S.ext (Keep.of_below hE); clear hE) | (go_at_call 150; have hcz := fun w => H2.out w; (with_reducible refine Calls.mono (hcz _) ?_); clear hcz; rintro e wz ⟨rfl, hE⟩; replace S := S.ext (Keep.of_below hE); clear hE) | ((with_reducible refine tot_done ?ht ?_); (case ht => kernel_rfl)) | ((with_reducible apply wps_text S); (case hm => kernel_rfl); (case hB => decide +kernel); clear S; intro wz S) | ((with_reducible apply wps_boxa S); (case hx => rfl); clear S; intro bz wz S) | ((with_reducible apply wps_box1 (v := .int _ _) S); (case hx | h1 => rfl); clear S; intro bz wz S) | ((with_reducible apply wps_box1 (v := .bool _) S); (case hx | h1 => rfl); clear S; intro bz wz S) | ((with_reducible apply wps_box1 (v := .slice _ _ _) S); (case hx | h1 => rfl); clear S; intro bz wz S) | ((with_reducible apply wps_box1 (v := .pointer _) S); (case hx | h1 => rfl); clear S; intro bz wz S) | ((with_reducible apply wps_box1 (v := .map _) S); (case hx | h1 => rfl); clear S; intro bz wz S) | ((with_reducible apply wps_box1 (v := .string _) S); (case hx | h1 => rfl); clear S; intro bz wz S) | ((with_reducible apply wps_box1 (v := .func _ _ _) S); (case hx | h1 => rfl); clear S; intro bz wz S) | ((with_reducible apply wps_load S 0); (case hx | hi | hu => rfl); (case hT => decide +kernel)) | ((with_reducible apply wps_loada (T := 46) (k := 4) S 0); (case hx | hi => rfl); (case hk => exact Nat.le_of_ble_eq_true rfl); (case hT => decide +kernel)) | ((with_reducible apply wps_load S 1); (case hx | hi | hu => rfl); (case hT => decide +kernel)) | ((with_reducible apply wps_loada (T := 46) (k := 4) S 1); (case hx | hi => rfl); (case hk => exact Nat.le_of_ble_eq_true rfl); (case hT => decide +kernel)) | ((with_reducible apply wps_load S 2); (case hx | hi | hu => rfl); (case hT => decide +kernel)) | ((with_reducible apply wps_loada (T := 46) (k := 4) S 2); (case hx | hi => rfl); (case hk => exact Nat.le_of_ble_eq_true rfl); (case hT => decide +kernel)) | ((with_reducible apply wps_load S 3); (case hx | hi | hu => rfl); (case hT => decide +kernel)) | ((with_reducible apply wps_loada (T := 46) (k := 4) S 3); (case hx | hi => rfl); (case hk => exact Nat.le_of_ble_eq_true rfl); (case hT => decide +kernel))
      go_ret
      exact ⟨ret_int (by unfold Event.tcmp; rw [h1, h2]; rfl), S.below⟩
    | false =>
      have H2 := Lib.hid (bef_is h2)
      have e : a.tcmp b = orL [icmp a.dst b.dst, icmp a.kind b.kind, icmp a.data b.data] := by unfold Event.tcmp; rw [h1, h2]; rfl
      rw [e]
      clear h1 h2 e
      go_enter Tryz.func88, Tryz.ntmps88
      go_wp2_with first | (go_at_call 150; have hcz := fun w => H1.out w; (with_reducible refine Calls.mono (hcz _) ?_); clear hcz; rintro e wz ⟨rfl, hE⟩; replace S := S.ext (Keep.of_below hE); clear hE) | (go_at_call 150; have hcz := fun w => H2.out w; (with_reducible refine Calls.mono (hcz _) ?_); clear hcz; rintro e wz ⟨rfl, hE⟩; replace S := S.ext (Keep.of_below hE); clear hE) | ((with_reducible refine tot_done ?ht ?_); (case ht => kernel_rfl)) | ((with_reducible apply wps_boxa S); (case hx => rfl); clear S; intro bz wz S) | ((with_reducible apply wps_box1 (v := .int _ _) S); (case hx | h1 => rfl); clear S; intro bz wz S) | ((with_reducible apply wps_box1 (v := .bool _) S); (case hx | h1 => rfl); clear S; intro bz wz S) | ((with_reducible apply wps_box1 (v := .slice _ _ _) S); (case hx | h1 => rfl); clear S; intro bz wz S) | ((with_reducible apply wps_box1 (v := .pointer _) S); (case hx | h1 => rfl); clear S; intro bz wz S) | ((with_reducible apply wps_box1 (v := .map _) S); (case hx | h1 => rfl); clear S; intro bz wz S) | ((with_reducible apply wps_box1 (v := .string _) S); (case hx | h1 => rfl); clear S; intro bz wz S) | ((with_reducible apply wps_box1 (v := .func _ _ _) S); (case hx | h1 => rfl); clear S; intro bz wz S) | ((with_reducible apply wps_load S 0); (case hx | hi | hu => rfl); (case hT => decide +kernel)) | ((with_reducible apply wps_loada (T := 46) (k := 4) S 0); (case hx | hi => rfl); (case hk => exact Nat.le_of_ble_eq_true rfl); (case hT => decide +kernel)) | ((with_reducible apply wps_load S 1); (case hx | hi | hu => rfl); (case hT => decide +kernel)) | ((with_reducible apply wps_loada (T := 46) (k := 4) S 1); (case hx | hi => rfl); (case hk => exact Nat.le_of_ble_eq_true rfl); (case hT => decide +kernel)) | ((with_reducible apply wps_load S 2); (case hx | hi | hu => rfl); (case hT => decide +kernel)) | ((with_reducible apply wps_loada (T := 46) (k := 4) S 2); (case hx | hi => rfl); (case hk => exact Nat.le_of_ble_eq_true rfl); (case hT => decide +kernel)) | ((with_reducible apply wps_load S 3); (case hx | hi | hu => rfl); (case hT => decide +kernel)) | ((with_reducible apply wps_loada (T := 46) (k := 4) S 3); (case hx | hi => rfl); (case hk => exact Nat.le_of_ble_eq_true rfl); (case hT => decide +kernel))
      (refine wp_region_w (soft := [0, 1, 2, 3, 4, 5, 6, 7, 8, 9, 10, 11, 12, 13, 14]) S ?hm ?hB ?_); (case hm => kernel_rfl); (case hB => decide +kernel); clear S
      iterate 15
        (with_reducible apply softs_cons)
        (case hw =>
          (with_reducible apply soft_of); (case hi => rfl)
          intro T wz S
          simp only [List.cons_append, List.nil_append] at S
          go_wp2_with first | (go_at_call 152; refine Calls.mono (cmpInt_calls _ _ _) ?_; rintro e wz ⟨rfl, hE⟩; replace S := S.ext (Keep.of_below hE); clear hE) | ((with_reducible refine tot_done ?ht ?_); (case ht => kernel_rfl)) | ((with_reducible apply wps_load S 0); (case hx | hi | hu => rfl); (case hT => decide +kernel)) | ((with_reducible apply wps_loada (T := 46) (k := 4) S 0); (case hx | hi => rfl); (case hk => exact Nat.le_of_ble_eq_true rfl); (case hT => decide +kernel)) | ((with_reducible apply wps_load S 1); (case hx | hi | hu => rfl); (case hT => decide +kernel)) | ((with_reducible apply wps_loada (T := 46) (k := 4) S 1); (case hx | hi => rfl); (case hk => exact Nat.le_of_ble_eq_true rfl); (case hT => decide +kernel)) | ((with_reducible apply wps_load S 2); (case hx | hi | hu => rfl); (case hT => decide +kernel)) | ((with_reducible apply wps_loada (T := 46) (k := 4) S 2); (case hx | hi => rfl); (case hk => exact Nat.le_of_ble_eq_true rfl); (case hT => decide +kernel)) | ((with_reducible apply wps_load S 3); (case hx | hi | hu => rfl); (case hT => decide +kernel)) | ((with_reducible apply wps_loada (T := 46) (k := 4) S 3); (case hx | hi => rfl); (case hk => exact Nat.le_of_ble_eq_true rfl); (case hT => decide +kernel))
          exact ⟨rfl, S⟩)
        (case hs => exact ⟨_, rfl, by kernel_rfl⟩)
      refine softs_nil ?_
      repeat'
        (first
          | ((with_reducible apply W_hard1 (i := 15)); (case hn => rfl); (case hr => decide +kernel)) | ((with_reducible apply W_hard1 (i := 16)); (case hn => rfl); (case hr => decide +kernel)) | ((with_reducible apply W_hard1 (i := 17)); (case hn => rfl); (case hr => decide +kernel)) | ((with_reducible apply W_hard2 (i := 15) (i' := 16)); (case hn => rfl); (case hr => decide +kernel)) | ((with_reducible apply W_hard2 (i := 15) (i' := 17)); (case hn => rfl); (case hr => decide +kernel)) | ((with_reducible apply W_hard2 (i := 16) (i' := 17)); (case hn => rfl); (case hr => decide +kernel)))
        all_goals
          intro wz S
          (with_reducible apply hard_of); (case hi => rfl)
          simp only [List.cons_append, List.nil_append] at S
          try simp only [pick, nth] at S
          go_wp2_with first | ((with_reducible apply wps_buildSlice (T := 37) (E := 3) (cs := #[.int .i64 (icmp a.dst b.dst), .int .i64 (icmp a.kind b.kind), .int .i64 (icmp a.data b.data)]) S); (case hr => intro w; kernel_rfl); clear S; intro bz wz S) | (go_at_call 151; refine Calls.mono (orInt_calls _ [icmp a.dst b.dst, icmp a.kind b.kind, icmp a.data b.data] _ _ (blk_sl _ intE_len (S.get (i := 2) rfl).choose_spec rfl rfl) (Nat.le_of_ble_eq_true rfl)) ?_; rintro e wz ⟨rfl, hE⟩; replace S := S.ext (Keep.of_below hE); clear hE) | ((with_reducible refine tot_done ?ht ?_); (case ht => kernel_rfl)) | ((with_reducible apply wps_load S 0); (case hx | hi | hu => rfl); (case hT => decide +kernel)) | ((with_reducible apply wps_loada (T := 46) (k := 4) S 0); (case hx | hi => rfl); (case hk => exact Nat.le_of_ble_eq_true rfl); (case hT => decide +kernel)) | ((with_reducible apply wps_load S 1); (case hx | hi | hu => rfl); (case hT => decide +kernel)) | ((with_reducible apply wps_loada (T := 46) (k := 4) S 1); (case hx | hi => rfl); (case hk => exact Nat.le_of_ble_eq_true rfl); (case hT => decide +kernel)) | ((with_reducible apply wps_load S 2); (case hx | hi | hu => rfl); (case hT => decide +kernel)) | ((with_reducible apply wps_loada (T := 46) (k := 4) S 2); (case hx | hi => rfl); (case hk => exact Nat.le_of_ble_eq_true rfl); (case hT => decide +kernel)) | ((with_reducible apply wps_load S 3); (case hx | hi | hu => rfl); (case hT => decide +kernel)) | ((with_reducible apply wps_loada (T := 46) (k := 4) S 3); (case hx | hi => rfl); (case hk => exact Nat.le_of_ble_eq_true rfl); (case hT => decide +kernel)) | ((with_reducible apply wps_load S 4); (case hx | hi | hu => rfl); (case hT => decide +kernel)) | ((with_reducible apply wps_loada (T := 46) (k := 4) S 4); (case hx | hi => rfl); (case hk => exact Nat.le_of_ble_eq_true rfl); (case hT => decide +kernel)) | ((with_reducible apply wps_load S 5); (case hx | hi | hu => rfl); (case hT => decide +kernel)) | ((with_reducible apply wps_loada (T := 46) (k := 4) S 5); (case hx | hi => rfl); (case hk => exact Nat.le_of_ble_eq_true rfl); (case hT => decide +kernel))
          first
            | refine ⟨_, S.pick [1, 2, 3, 4, 5, 6, 0] rfl, ?_⟩
            | refine ⟨_, S.pick [1, 2, 3, 4, 5, 0] rfl, ?_⟩
            | refine ⟨_, S.pick [1, 2, 3, 4, 0] rfl, ?_⟩
            | refine ⟨_, S.pick [1, 2, 3, 0] rfl, ?_⟩
            | refine ⟨_, S.pick [1, 2, 0] rfl, ?_⟩
            | refine ⟨_, S, ?_⟩
      (with_reducible apply W_done); (case hn => rfl); (case hr => decide +kernel)
      clear S
      intro wz S
      simp only [List.cons_append, List.nil_append] at S
      try simp only [pick, nth] at S
      go_wp2_with first | ((with_reducible refine tot_done ?ht ?_); (case ht => kernel_rfl)) | ((with_reducible apply wps_text S); (case hm => kernel_rfl); (case hB => decide +kernel); clear S; intro wz S) | ((with_reducible apply wps_load S 0); (case hx | hi | hu => rfl); (case hT => decide +kernel)) | ((with_reducible apply wps_loada (T := 46) (k := 4) S 0); (case hx | hi => rfl); (case hk => exact Nat.le_of_ble_eq_true rfl); (case hT => decide +kernel)) | ((with_reducible apply wps_load S 1); (case hx | hi | hu => rfl); (case hT => decide +kernel)) | ((with_reducible apply wps_loada (T := 46) (k := 4) S 1); (case hx | hi => rfl); (case hk => exact Nat.le_of_ble_eq_true rfl); (case hT => decide +kernel)) | ((with_reducible apply wps_load S 2); (case hx | hi | hu => rfl); (case hT => decide +kernel)) | ((with_reducible apply wps_loada (T := 46) (k := 4) S 2); (case hx | hi => rfl); (case hk => exact Nat.le_of_ble_eq_true rfl); (case hT => decide +kernel)) | ((with_reducible apply wps_load S 3); (case hx | hi | hu => rfl); (case hT => decide +kernel)) | ((with_reducible apply wps_loada (T := 46) (k := 4) S 3); (case hx | hi => rfl); (case hk => exact Nat.le_of_ble_eq_true rfl); (case hT => decide +kernel))
      go_ret
      exact ⟨rfl, S.below⟩
theorem icmp_cases (x y : Int) : (x < y ∧ icmp x y = -1) ∨ (x = y ∧ icmp x y = 0) ∨ (y < x ∧ icmp x y = 1) := by
  unfold icmp
  rcases Int.lt_trichotomy x y with h | h | h
  · exact .inl ⟨h, by rw [if_pos h]⟩
  · exact .inr (.inl ⟨h, by rw [if_neg (by omega), if_neg (by omega)]⟩)
  · exact .inr (.inr ⟨h, by rw [if_neg (by omega), if_pos h]⟩)
theorem tcmp_neg (a b : Event) : decide (a.tcmp b < 0) = decide (evLt a b) := by
  rw [decide_eq_decide]
  have hl : ∀ k l : Key, k.lt l = decide (k.at_ < l.at_ ∨ (k.at_ = l.at_ ∧ (k.src < l.src ∨ (k.src = l.src ∧ (k.sent < l.sent ∨ (k.sent = l.sent ∧ k.no < l.no)))))) := fun k l => by
    rw [Bool.eq_iff_iff, Key.lt_iff]; simp
  unfold Event.tcmp evLt
  rw [hl, hl]
  simp only [decide_eq_true_eq]
  split
  · constructor
    · intro _; omega
    · intro _; omega
  · split
    · constructor
      · intro h; omega
      · intro _; omega
    · simp only [orL]
      rcases icmp_cases a.dst b.dst with ⟨h1, e1⟩ | ⟨h1, e1⟩ | ⟨h1, e1⟩ <;> rw [e1]
      · constructor
        · intro _; omega
        · intro _; simp
      · rcases icmp_cases a.kind b.kind with ⟨h2, e2⟩ | ⟨h2, e2⟩ | ⟨h2, e2⟩ <;> rw [e2]
        · constructor
          · intro _; omega
          · intro _; simp
        · rcases icmp_cases a.data b.data with ⟨h3, e3⟩ | ⟨h3, e3⟩ | ⟨h3, e3⟩ <;> rw [e3]
          · constructor
            · intro _; omega
            · intro _; simp
          · constructor
            · intro h; exact absurd h (by simp)
            · intro _; omega
          · constructor
            · intro h; exact absurd h (by simp)
            · intro _; omega
        · constructor
          · intro h; exact absurd h (by simp)
          · intro _; omega
      · constructor
        · intro h; exact absurd h (by simp)
        · intro _; omega
end Go.Proofs.YtmpfbkfemlhekaaGreatDoor
/- A region that draws its order, beside things that its hard operations turn. Over any program. -/
namespace Go.Proofs.YtmpfbkfemlhekaaGreatDoor.Mem
open Go Go.RowKit Reg
section
variable {P : Program} {ops : Array Oper} {Q : Exit → Act → World → Prop} {G : Nat → Prop} {w0 : World} {L : List Asn}
theorem wp_region_wt {id : Nat} {soft : List Nat} {a : Act} {w : World} {T : List Asn} (S : St G w0 w (L ++ T)) (hm : P.follows .mixedOrders = true) (hB : softB ops soft = true)
    (h : Softs P ops Q G w0 L (fun A => W P ops Q G w0 L (ops.size - soft.length) T (after soft (Array.replicate ops.size false)) A) soft a) : (Code.region id ops true).wp P Q a w := by
  simp only [softB, Bool.and_eq_true] at hB
  have hc : Closed .any ops (Array.replicate ops.size false) := fun j oj _ hl => by
    rw [Array.getD_eq_getD_getElem?] at hl
    by_cases hj : j < ops.size
    · rw [Array.getElem?_replicate, if_pos hj] at hl; cases hl
    · rw [Array.getElem?_replicate, if_neg hj] at hl; cases hl
  have hle := Nat.le_of_ble_eq_true hB.2
  have := W_softs hB.1.1 soft (ops.size - soft.length) T _ a hc hB.1.2 h
  rw [show ops.size - soft.length + soft.length = ops.size by omega] at this
  exact wp_region_any hm (W_any _ T _ a _ this (S.ext (keep_drew w)))
end
end Go.Proofs.YtmpfbkfemlhekaaGreatDoor.Mem
/- Operations of one value in the midst of a region that draws its order. Over any program. -/
namespace Go.Proofs.YtmpfbkfemlhekaaGreatDoor.Mem
open Go Go.RowKit Reg
section
variable {P : Program} {ops : Array Oper} {Q : Exit → Act → World → Prop} {G : Nat → Prop} {w0 : World} {L : List Asn}
def closedB (ops : Array Oper) (listed : Array Bool) : Bool :=
  (List.range ops.size).all fun j => !listed.getD j false || ((ops[j]?).map (·.after.all fun e => !Region.binds .any e || listed.getD e.on false)).getD true
theorem closed_of {listed : Array Bool} (h : closedB ops listed = true) : Closed .any ops listed := fun j oj hj hl e he hb => by
  have h1 := List.all_eq_true.1 h j (List.mem_range.2 (Array.getElem?_eq_some_iff.1 hj).1)
  rw [hj] at h1
  simp only [hl, Option.map_some, Option.getD_some, Bool.not_true, Bool.false_or, Array.all_eq_true'] at h1
  have := h1 e he
  rw [hb] at this
  simpa using this
theorem W_mid {n f : Nat} {soft : List Nat} {T : List Asn} {listed : Array Bool} {a : Act} (hn : n = f + soft.length) (hB : (ordB ops && closedB ops listed && readyAll ops soft listed) = true)
    (h : Softs P ops Q G w0 L (fun A => W P ops Q G w0 L f T (after soft listed) A) soft a) : W P ops Q G w0 L n T listed a := by
  simp only [Bool.and_eq_true] at hB
  rw [hn]
  exact W_softs hB.1.1 soft f T listed a (closed_of hB.1.2) hB.2 h
end
end Go.Proofs.YtmpfbkfemlhekaaGreatDoor.Mem
/- Several results, of which some lie in cells. Over any program. -/
namespace Go.Proofs.YtmpfbkfemlhekaaGreatDoor.Mem
open Go Go.RowKit Reg

def ResV (P : Program) (w : World) (tmps : Array Value) : ResultVar → Value → Prop
  | .tmp t, v => tmps.getD t undef = v
  | .cell q t, v => ∃ b, tmps.getD q undef = .pointer (some ⟨b, 0, none⟩) ∧ (loadVar t ⟨b, 0, none⟩).run P w = .ok v w
section
variable {P : Program} {fn : Func} {tmps : Array Value} {G : Nat → Prop} {w0 w : World} {L : List Asn} {r1 r2 r3 : ResultVar} {v1 v2 v3 : Value}
theorem results2 (h : fn.results = #[r1, r2]) (h1 : ResV P w tmps r1 v1) (h2 : ResV P w tmps r2 v2) : (results fn tmps).run P w = .ok (.tuple #[v1, v2]) w := by
  cases r1 <;> cases r2 <;> simp only [ResV, Array.getD_eq_getD_getElem?] at h1 h2
  · simp [results, h, h1, h2]
  · obtain ⟨b2, p2, l2⟩ := h2; simp [results, h, h1, p2, asAddr, l2]
  · obtain ⟨b1, p1, l1⟩ := h1; simp [results, h, h2, p1, asAddr, l1]
  · obtain ⟨b1, p1, l1⟩ := h1; obtain ⟨b2, p2, l2⟩ := h2; simp [results, h, p1, p2, asAddr, l1, l2]
theorem results3 (h : fn.results = #[r1, r2, r3]) (h1 : ResV P w tmps r1 v1) (h2 : ResV P w tmps r2 v2) (h3 : ResV P w tmps r3 v3) : (results fn tmps).run P w = .ok (.tuple #[v1, v2, v3]) w := by
  cases r1 <;> cases r2 <;> cases r3 <;> simp only [ResV, Array.getD_eq_getD_getElem?] at h1 h2 h3
  · simp [results, h, h1, h2, h3]
  · obtain ⟨b3, p3, l3⟩ := h3; simp [results, h, h1, h2, p3, asAddr, l3]
  · obtain ⟨b2, p2, l2⟩ := h2; simp [results, h, h1, h3, p2, asAddr, l2]
  · obtain ⟨b2, p2, l2⟩ := h2; obtain ⟨b3, p3, l3⟩ := h3; simp [results, h, h1, p2, p3, asAddr, l2, l3]
  · obtain ⟨b1, p1, l1⟩ := h1; simp [results, h, h2, h3, p1, asAddr, l1]
  · obtain ⟨b1, p1, l1⟩ := h1; obtain ⟨b3, p3, l3⟩ := h3; simp [results, h, h2, p1, p3, asAddr, l1, l3]
  · obtain ⟨b1, p1, l1⟩ := h1; obtain ⟨b2, p2, l2⟩ := h2; simp [results, h, h3, p1, p2, asAddr, l1, l2]
  · obtain ⟨b1, p1, l1⟩ := h1; obtain ⟨b2, p2, l2⟩ := h2; obtain ⟨b3, p3, l3⟩ := h3; simp [results, h, p1, p2, p3, asAddr, l1, l2, l3]
theorem St.resA {sh : Bool} {b : Nat} {cs : Array Value} {t ty : TypeId} {q : Tmp} (S : St G w0 w L) (i : Nat) (hi : L[i]? = some (Blk sh b cs t)) (hp : tmps.getD q undef = .pointer (some ⟨b, 0, none⟩)) (hA : aggB P ty cs.size = true) : ResV P w tmps (.cell q ty) (.agg cs) := by
  refine ⟨b, hp, ?_⟩
  have hl := run_loadVar_agg (P := P) (t := ty) (b := b) (o := 0) (w := w) (vs := cs.toList) (by simpa using hA) (fun j u hj => by rw [Nat.zero_add, cell_of (S.blk i hi)]; simpa using hj)
  simpa using hl
theorem St.res1 {sh : Bool} {b : Nat} {v : Value} {t ty : TypeId} {q : Tmp} (S : St G w0 w L) (i : Nat) (hi : L[i]? = some (Blk sh b #[v] t)) (hp : tmps.getD q undef = .pointer (some ⟨b, 0, none⟩)) (hT : leafB P ty = true) : ResV P w tmps (.cell q ty) v :=
  ⟨b, hp, run_load_leaf hT (by rw [cell_of (S.blk i hi)]; rfl)⟩
theorem res_tmp {t : Tmp} {v : Value} (h : tmps.getD t undef = v) : ResV P w tmps (.tmp t) v := h
end
end Go.Proofs.YtmpfbkfemlhekaaGreatDoor.Mem

import Derived.Test.YtemgonomenjjaaaGreatDoorTie
import Derived.Test.YtemgonomenjjaaaGreatDoorCards
import Derived.Test.YtemgonomenjjaaaGreatDoorU01
import Derived.Test.YtemgonomenjjaaaGreatDoorU04
import Derived.Test.YtemgonomenjjaaaGreatDoorU05
import Derived.MakeChecks
import Derived.LaidMore
import Derived.Stop.Joined
import Derived.SevenTiedAt
import Derived.Test.YtemgonomenjjaaaGreatDoorU08
import Derived.Laws.CopyRow
/- The table of ops, as the row's condition has it; and that the program's own door meets the condition. -/
namespace Go.Proofs.YtemgonomenjjaaaGreatDoor
open Go Go.ChangeShapes Go.WideShapes Go.ChangeAt Go.RowKit Mem

def tabLaid : List (String × DataW Unit) := [("boomerang/code.table", Rows.laid_boomerang_code_table)]
theorem door_met (os : Os) (args : Array Value) : laidMetH Tryz.prog tabLaid ((World.doorLaid Tryz.prog 59 os).forCall (fun _ _ => 0) ⟨#[], args, []⟩).memory :=
  laidMetH_of_parts3 (fuel := 8) (laidMet_of_run' 8 (by kernel_rfl) (by kernel_rfl)) (by kernel_rfl) (by kernel_rfl)
theorem gTable : Tryz.prog.globalNamed "boomerang/code.table" = some 0 := by kernel_rfl
theorem tTable : (Tryz.prog.globals[0]?).map (·.type) = some 219 := by kernel_rfl
theorem lay_some {P : Program} {t : TypeId} (h : (lay P 100 t).isSome = true) (h2 : P.cellsOf t = ((lay P 100 t).getD []).length) : ∃ ks, lay P 100 t = some ks ∧ P.cellsOf t = ks.length := by
  obtain ⟨ks, hk⟩ := Option.isSome_iff_exists.1 h
  exact ⟨ks, hk, by rw [h2, hk]; rfl⟩
set_option maxRecDepth 100000 in
theorem tab_of_laid {W : World} (h : laidMetH Tryz.prog tabLaid W) : Tab.at_ W (fun b => b = 0) := by
  rw [MakeChecks.laidMetH_plain _ _ _ (by kernel_rfl)] at h
  obtain ⟨ps, ⟨g0, t0, cs0, f0, p0, q0, hg0, ht0, hv0, hd0, _⟩, _⟩ := h
  obtain rfl := Option.some.inj (gTable.symm.trans hg0)
  obtain rfl := Option.some.inj (tTable.symm.trans ht0)
  obtain ⟨ks, hk, hc⟩ := lay_some (P := Tryz.prog) (t := 219) (by kernel_rfl) (by kernel_rfl)
  have e := trod_cells 100 219 ks hk hc _ _ _ hd0
  have e2 : cellsD 100 (Rows.laid_boomerang_code_table : DataW Unit) = flatE About.cells table := by kernel_rfl
  have e3 : cs0.toList = flatE About.cells table := e.trans e2
  have hcell : ∀ i, W.cell? ⟨0, i, none⟩ = (flatE About.cells table)[i]? := fun i => by
    rw [World.var?_cell gTable hv0 i, ← e3, Array.getElem?_toList]
  have acells : ∀ x : About, x.cells.length = 6 := fun _ => rfl
  refine ⟨⟨some ⟨0, 0, none⟩, 16, rfl, by rw [table_len]; exact Nat.le_refl _, (fun h => by cases h), fun i x hi => ⟨0, 0, rfl, rfl, fun j u hj => ?_⟩⟩, fun b hb => ?_⟩
  · have hj6 : j < 6 := by rw [← acells x]; exact (List.getElem?_eq_some_iff.1 hj).1
    rw [hcell, Nat.zero_add, flatE_get acells hi j hj6]
    exact hj
  · subst hb
    have h0 := hcell 0
    cases hz : W.heap[0]? with
    | none => exfalso; simp only [World.cell?, hz] at h0; exact absurd h0 (by rw [flatE_get acells (i := 0) (x := table[0]) rfl 0 (by decide)]; simp [About.cells])
    | some o => exact (Array.getElem?_eq_some_iff.1 hz).1
end Go.Proofs.YtemgonomenjjaaaGreatDoor
/- Two things that are owned, as one; a new model out of its parts. -/
namespace Go.Proofs.YtemgonomenjjaaaGreatDoor
open Go Go.RowKit Mem

theorem loc_of {A : Asn} {w w' : World} {F F1 : Nat → Prop} (h : A.at_ w F1) (hF : ∀ b, F1 b → F b) (hb : ∀ b, F b → w'.heap[b]? = w.heap[b]?) : A.at_ w' F1 := A.loc h fun b h => hb b (hF b h)
def Both (A B : Asn) : Asn where
  sh := false
  at_ w F := ∃ F1 F2, A.at_ w F1 ∧ B.at_ w F2 ∧ ∀ b, F b ↔ F1 b ∨ F2 b
  loc h hb := let ⟨F1, F2, h1, h2, h3⟩ := h; ⟨F1, F2, loc_of h1 (fun b h => (h3 b).2 (.inl h)) hb, loc_of h2 (fun b h => (h3 b).2 (.inr h)) hb, h3⟩
  lt h b hb := let ⟨_, _, h1, h2, h3⟩ := h; ((h3 b).1 hb).elim (A.lt h1 b) (B.lt h2 b)
section
variable {G : Nat → Prop} {w0 w : World} {L : List Asn} {A B : Asn}
theorem Mem.St.both (S : St G w0 w (A :: B :: L)) (hA : A.sh = false) (hB : B.sh = false) : St G w0 w (Both A B :: L) :=
  S.merge _ hA hB rfl fun F F' h h' => ⟨F, F', h, h', fun _ => Iff.rfl⟩
/-- A new model out of its parts. -/
theorem Mem.St.modNew {T : TypeId} {R : Nat} {vP vL vS : Value} {hs : List Value} {ps : List (List Instr)} {ls : List Place} {ss : List Start} {fin fuel fan : Int}
    (S : St G w0 w (Blk false R #[vP, vL, vS, .int .i64 fin, .int .i64 fuel, .int .i64 fan] T :: Sl false vcell 1 vP hs :: Sl false Place.cells 5 vL ls :: Sl false Start.cells 4 vS ss :: Sls false Instr.cells 5 hs ps :: L)) :
    St G w0 w (ModA false T R [vP, vL, vS, .int .i64 fin, .int .i64 fuel, .int .i64 fan] hs ⟨ps, ls, ss, fin, fuel, fan⟩ :: L) := by
  have S1 := (((S.both rfl rfl).both rfl rfl).both rfl rfl).both rfl rfl
  have := S1.weak (i := 0) (A' := ModA false T R [vP, vL, vS, .int .i64 fin, .int .i64 fuel, .int .i64 fan] hs ⟨ps, ls, ss, fin, fuel, fan⟩) rfl (fun _ => rfl) fun F h => ?_
  · simpa using this
  · obtain ⟨F1, F2, ⟨F3, F4, ⟨F5, F6, ⟨F7, F8, h1, h2, e4⟩, h3, e3⟩, h4, e2⟩, h5, e1⟩ := h
    have i1 : ∀ b, F7 b → F b := fun b h => (e1 b).2 (.inl ((e2 b).2 (.inl ((e3 b).2 (.inl ((e4 b).2 (.inl h)))))))
    have i2 : ∀ b, F8 b → F b := fun b h => (e1 b).2 (.inl ((e2 b).2 (.inl ((e3 b).2 (.inl ((e4 b).2 (.inr h)))))))
    have i3 : ∀ b, F6 b → F b := fun b h => (e1 b).2 (.inl ((e2 b).2 (.inl ((e3 b).2 (.inr h)))))
    have i4 : ∀ b, F4 b → F b := fun b h => (e1 b).2 (.inl ((e2 b).2 (.inr h)))
    have i5 : ∀ b, F2 b → F b := fun b h => (e1 b).2 (.inr h)
    refine ⟨F, fun _ h => h, ⟨⟨h1.1, i1 R ((h1.2 R).2 rfl), ⟨⟨vP, vL, vS, rfl, h2.1.mono i2, h3.1.mono i3, h4.1.mono i4⟩, h5.1.mono i5⟩⟩, fun b hb => ?_⟩⟩
    rcases (e1 b).1 hb with h | h
    · rcases (e2 b).1 h with h | h
      · rcases (e3 b).1 h with h | h
        · rcases (e4 b).1 h with h | h
          · exact (Blk false R _ T).lt h1 b h
          · exact h2.2 b h
        · exact h3.2 b h
      · exact h4.2 b h
    · exact h5.2 b h
end
theorem firstE_mem (l : List Int) : firstE l = 0 ∨ firstE l ∈ l := by
  induction l with
  | nil => simp [firstE]
  | cons x l ih => by_cases h : x = 0 <;> simp [firstE, h]; exact ih.elim .inl fun h => .inr h
theorem hset {l m : List Value} {x y : Value} {k : Nat} (h : k = l.length) : (l ++ x :: m).set k y = (l ++ [y]) ++ m := by subst h; simp
end Go.Proofs.YtemgonomenjjaaaGreatDoor
/- Opening a configuration that came in. -/
namespace Go.Proofs.YtemgonomenjjaaaGreatDoor
open Go Go.ChangeShapes Go.WideShapes Go.ChangeAt Go.RowKit Mem

abbrev i5 : List TypeDesc := [.int .i64, .int .i64, .int .i64, .int .i64, .int .i64]
theorem dec5 {vs : List Value} (h0 : fits i5 vs = true) : ∃ a b c d e : Int, vs = [.int .i64 a, .int .i64 b, .int .i64 c, .int .i64 d, .int .i64 e] := by
  obtain ⟨a, v1, rfl, h1⟩ := fits_cons_int h0
  obtain ⟨b, v2, rfl, h2⟩ := fits_cons_int h1
  obtain ⟨c, v3, rfl, h3⟩ := fits_cons_int h2
  obtain ⟨d, v4, rfl, h4⟩ := fits_cons_int h3
  obtain ⟨e, v5, rfl, h5⟩ := fits_cons_int h4
  obtain rfl := fits_none h5
  exact ⟨a, b, c, d, e, rfl⟩
theorem dec4 {vs : List Value} (h0 : fits i4 vs = true) : ∃ a b c d : Int, vs = [.int .i64 a, .int .i64 b, .int .i64 c, .int .i64 d] := by
  obtain ⟨a, v1, rfl, h1⟩ := fits_cons_int h0
  obtain ⟨b, v2, rfl, h2⟩ := fits_cons_int h1
  obtain ⟨c, v3, rfl, h3⟩ := fits_cons_int h2
  obtain ⟨d, v4, rfl, h4⟩ := fits_cons_int h3
  obtain rfl := fits_none h4
  exact ⟨a, b, c, d, rfl⟩
theorem instr_dec : ∀ vs, fits i5 vs = true → (∀ v ∈ vs, wfv v = true) → ∃ k : Instr, k.cells = vs ∧ True := fun vs h _ => by
  obtain ⟨a, b, c, d, e, rfl⟩ := dec5 h; exact ⟨⟨a, b, c, d, e⟩, rfl, trivial⟩
theorem place_dec : ∀ vs, fits i5 vs = true → (∀ v ∈ vs, wfv v = true) → ∃ k : Place, k.cells = vs ∧ True := fun vs h _ => by
  obtain ⟨a, b, c, d, e, rfl⟩ := dec5 h; exact ⟨⟨a, ⟨b, c, d, e⟩⟩, rfl, trivial⟩
theorem start_dec : ∀ vs, fits i4 vs = true → (∀ v ∈ vs, wfv v = true) → ∃ k : Start, k.cells = vs ∧ True := fun vs h _ => by
  obtain ⟨a, b, c, d, rfl⟩ := dec4 h; exact ⟨⟨a, b, c, d⟩, rfl, trivial⟩
section
variable {H : Type} {enc : TypeId × Value → H} {w : World} {base : Nat} {spare : Nat → Bool} {held : Bool}
/-- A slice of plain things, from its one cell. -/
theorem trod_sl {P : Program} {t e : TypeId} {ks : List TypeDesc} {α : Type} (en : α → List Value) (k : Nat) (ht : P.underlying t = some (.slice e)) (hl : lay P 100 e = some ks) (hk : P.cellsOf e = ks.length) (hkk : ks.length = k) (h0 : 0 < k) (hen : ∀ x, (en x).length = k)
    (dec : ∀ vs, fits ks vs = true → (∀ v ∈ vs, wfv v = true) → ∃ x : α, en x = vs ∧ True) {fuel : Nat} {cs : List Value} {x : DataW H × List MemPlace} (hf : DataW.trod enc P w base spare held fuel t cs = some x) :
    ∃ v, ∃ xs : List α, cs = [v] ∧ SlAt en k w (fun b => b < w.heap.size) v xs ∧ xs.length ≤ maxLen := by
  obtain ⟨a, c, xs, hcs, h1, hc2, h2, _, hc⟩ := open_slice_flat en (fun _ => True) ht hl hk (by omega) dec hf
  refine ⟨_, xs, hcs, ⟨a, c, rfl, h1, fun e => (h2 e).2, fun i y hi => ?_⟩, by omega⟩
  obtain ⟨R, o, e, hcell⟩ := hc i y hi
  refine ⟨R, o, e, ?_, fun j u hj => by rw [← hkk]; exact hcell j u hj⟩
  have hy : 0 < (en y).length := by rw [hen]; exact h0
  have := hcell 0 _ (List.getElem?_eq_getElem hy)
  exact Nat.lt_of_not_le fun hge => by simp [World.cell?, Array.getElem?_eq_none hge] at this
/-- A slice of slices. -/
theorem trod_sls {P : Program} {t e e2 : TypeId} {ks : List TypeDesc} {α : Type} (en : α → List Value) (k : Nat) (ht : P.underlying t = some (.slice e)) (he : P.underlying e = some (.slice e2)) (hce : P.cellsOf e = 1) (hl : lay P 100 e2 = some ks) (hk : P.cellsOf e2 = ks.length) (hkk : ks.length = k) (h0 : 0 < k) (hen : ∀ x, (en x).length = k)
    (dec : ∀ vs, fits ks vs = true → (∀ v ∈ vs, wfv v = true) → ∃ x : α, en x = vs ∧ True) {fuel : Nat} {cs : List Value} {x : DataW H × List MemPlace} (hf : DataW.trod enc P w base spare held fuel t cs = some x) :
    ∃ v, ∃ hs : List Value, ∃ xss : List (List α), cs = [v] ∧ SlAt vcell 1 w (fun b => b < w.heap.size) v hs ∧ SlsAt en k w (fun b => b < w.heap.size) hs xss ∧ xss.length ≤ maxLen ∧ ∀ xs ∈ xss, xs.length ≤ maxLen := by
  obtain ⟨a, c, ys, hcs, h1, hc2, h2, hok, hc⟩ := open_slice_any (α := Value × List α) (k := 1) (fun y => [y.1]) (fun y => SlAt en k w (fun b => b < w.heap.size) y.1 y.2 ∧ y.2.length ≤ maxLen) ht hce (by omega)
    (fun n vs x hx => by obtain ⟨v, xs, h3, h4, h5⟩ := trod_sl en k he hl hk hkk h0 hen dec hx; exact ⟨(v, xs), h3.symm, h4, h5⟩) hf
  refine ⟨_, ys.map (·.1), ys.map (·.2), hcs, ⟨a, c, by simp, by simpa using h1, fun e => (h2 e).2, fun i y hi => ?_⟩, ⟨by simp, fun i v xs hv hx => ?_⟩, by simp; omega, fun xs hx => ?_⟩
  · rw [List.getElem?_map] at hi
    cases hy : ys[i]? with
    | none => rw [hy] at hi; cases hi
    | some z =>
      rw [hy] at hi; simp at hi; subst hi
      obtain ⟨R, o, e, hcell⟩ := hc i z hy
      refine ⟨R, o, e, ?_, fun j u hj => hcell j u hj⟩
      have := hcell 0 _ rfl
      exact Nat.lt_of_not_le fun hge => by simp [World.cell?, Array.getElem?_eq_none hge] at this
  · rw [List.getElem?_map] at hv hx
    cases hy : ys[i]? with
    | none => rw [hy] at hv; cases hv
    | some z =>
      rw [hy] at hv hx; simp at hv hx; subst hv; subst hx
      exact (hok z (List.mem_of_getElem? hy)).1
  · obtain ⟨z, hz, rfl⟩ := List.mem_map.1 hx
    exact (hok z hz).2
/-- How long things that came in may be. -/
structure Wide (c : Cfg) : Prop where
  p : c.programs.length ≤ maxLen
  q : ∀ x ∈ c.programs, x.length ≤ maxLen
  l : c.lps.length ≤ maxLen
  s : c.starts.length ≤ maxLen
theorem list6 {α : Type} : ∀ {l : List α}, l.length = 6 → ∃ a b c d e f, l = [a, b, c, d, e, f]
  | [a, b, c, d, e, f], _ => ⟨a, b, c, d, e, f, rfl⟩
end
end Go.Proofs.YtemgonomenjjaaaGreatDoor
/- Opening a configuration that came in, with the bytes that it takes. -/
namespace Go.Proofs.YtemgonomenjjaaaGreatDoor
open Go Go.ChangeShapes Go.WideShapes Go.ChangeAt Go.RowKit Mem Go.Deep

section
variable {H : Type} {enc : TypeId × Value → H} {w : World} {base : Nat} {spare : Nat → Bool} {held : Bool}
def Light (P : Program) (t : TypeId) (d : DataW H) : Prop := ∀ n ∈ d.weights P t, n ≤ reachBytes
theorem light_all {P : Program} {e : TypeId} : ∀ {l : List (DataW H)}, (∀ n ∈ DataW.weightsAll P e l, n ≤ reachBytes) → ∀ d ∈ l, Light P e d
  | [], _, d, hd => by cases hd
  | x :: l, h, d, hd => by
    simp only [DataW.weightsAll, List.mem_append] at h
    rcases List.mem_cons.1 hd with rfl | hd
    · exact fun n hn => h n (.inl hn)
    · exact light_all (fun n hn => h n (.inr hn)) d hd
theorem light_slice {P : Program} {t e : TypeId} (ht : P.underlying t = some (.slice e)) {es sp : List (DataW H)} (h : Light P t (.slice es sp)) : (es.length + sp.length) * P.bytesOf e ≤ reachBytes ∧ ∀ d ∈ es, Light P e d := by
  unfold Light at h
  simp only [DataW.weights, ht, List.mem_cons, List.mem_append] at h
  exact ⟨h _ (.inl rfl), light_all fun n hn => h n (.inr (.inl hn))⟩
theorem sl_bytes {P : Program} {t e : TypeId} (ht : P.underlying t = some (.slice e)) {fuel : Nat} {cs : List Value} {x : DataW H × List MemPlace} (hf : DataW.trod enc P w base spare held fuel t cs = some x) {a : Option Addr} {len c : Nat} (hcs : cs = [.slice a len c]) (hw : Light P t x.1) :
    len * P.bytesOf e ≤ reachBytes := by
  rcases open_slice ht hf with ⟨rfl, _⟩ | ⟨a', len', cap, m, n, D, Pl, rfl, _, _, _, _, rfl, _⟩
  · simp only [List.cons.injEq, Value.slice.injEq] at hcs
    obtain ⟨⟨_, rfl, _⟩, _⟩ := hcs
    simp
  · simp only [List.cons.injEq, Value.slice.injEq] at hcs
    obtain ⟨⟨_, rfl, _⟩, _⟩ := hcs
    have := (light_slice ht hw).1
    simp only [List.length_map, List.length_range] at this
    exact Nat.le_trans (Nat.mul_le_mul_right _ (by omega)) this
theorem trod_slB {P : Program} {t e : TypeId} {ks : List TypeDesc} {α : Type} (en : α → List Value) (k : Nat) (ht : P.underlying t = some (.slice e)) (hl : lay P 100 e = some ks) (hk : P.cellsOf e = ks.length) (hkk : ks.length = k) (h0 : 0 < k) (hen : ∀ x, (en x).length = k)
    (dec : ∀ vs, fits ks vs = true → (∀ v ∈ vs, wfv v = true) → ∃ x : α, en x = vs ∧ True) {fuel : Nat} {cs : List Value} {x : DataW H × List MemPlace} (hf : DataW.trod enc P w base spare held fuel t cs = some x) (hw : Light P t x.1) :
    ∃ v, ∃ xs : List α, cs = [v] ∧ SlAt en k w (fun b => b < w.heap.size) v xs ∧ xs.length ≤ maxLen ∧ xs.length * P.bytesOf e ≤ reachBytes := by
  obtain ⟨v, xs, h1, h2, h3⟩ := trod_sl en k ht hl hk hkk h0 hen dec hf
  obtain ⟨a, c, rfl, _⟩ := h2.form
  exact ⟨_, xs, h1, h2, h3, sl_bytes ht hf h1 hw⟩
theorem trod_slsB {P : Program} {t e e2 : TypeId} {ks : List TypeDesc} {α : Type} (en : α → List Value) (k : Nat) (ht : P.underlying t = some (.slice e)) (he : P.underlying e = some (.slice e2)) (hce : P.cellsOf e = 1) (hl : lay P 100 e2 = some ks) (hk : P.cellsOf e2 = ks.length) (hkk : ks.length = k) (h0 : 0 < k) (hen : ∀ x, (en x).length = k)
    (dec : ∀ vs, fits ks vs = true → (∀ v ∈ vs, wfv v = true) → ∃ x : α, en x = vs ∧ True) {fuel : Nat} {cs : List Value} {x : DataW H × List MemPlace} (hf : DataW.trod enc P w base spare held fuel t cs = some x) (hw : Light P t x.1) :
    ∃ v, ∃ hs : List Value, ∃ xss : List (List α), cs = [v] ∧ SlAt vcell 1 w (fun b => b < w.heap.size) v hs ∧ SlsAt en k w (fun b => b < w.heap.size) hs xss ∧ xss.length ≤ maxLen ∧ (∀ xs ∈ xss, xs.length ≤ maxLen) ∧ xss.length * P.bytesOf e ≤ reachBytes ∧ ∀ xs ∈ xss, xs.length * P.bytesOf e2 ≤ reachBytes := by
  obtain ⟨a, c, ys, hcs, h1, hc2, h2, hok, hc⟩ := open_slice_anyW (α := Value × List α) (k := 1) (fun y => [y.1]) (fun y => SlAt en k w (fun b => b < w.heap.size) y.1 y.2 ∧ y.2.length ≤ maxLen ∧ y.2.length * P.bytesOf e2 ≤ reachBytes) (Light P e) ht hce (by omega)
    (fun n vs x hx hwx => by obtain ⟨v, xs, h3, h4, h5, h6⟩ := trod_slB en k he hl hk hkk h0 hen dec hx hwx; exact ⟨(v, xs), h3.symm, h4, h5, h6⟩) hf
    (fun es sp e => (light_slice ht (by rw [← e]; exact hw)).2)
  refine ⟨_, ys.map (·.1), ys.map (·.2), hcs, ⟨a, c, by simp, by simpa using h1, fun e => (h2 e).2, fun i y hi => ?_⟩, ⟨by simp, fun i v xs hv hx => ?_⟩, by simp; omega, fun xs hx => ?_, by simpa using sl_bytes ht hf hcs hw, fun xs hx => ?_⟩
  · rw [List.getElem?_map] at hi
    cases hy : ys[i]? with
    | none => rw [hy] at hi; cases hi
    | some z =>
      rw [hy] at hi; simp at hi; subst hi
      obtain ⟨R, o, e, hcell⟩ := hc i z hy
      refine ⟨R, o, e, ?_, fun j u hj => hcell j u hj⟩
      have := hcell 0 _ rfl
      exact Nat.lt_of_not_le fun hge => by simp [World.cell?, Array.getElem?_eq_none hge] at this
  · rw [List.getElem?_map] at hv hx
    cases hy : ys[i]? with
    | none => rw [hy] at hv; cases hv
    | some z =>
      rw [hy] at hv hx; simp at hv hx; subst hv; subst hx
      exact (hok z (List.mem_of_getElem? hy)).1
  · obtain ⟨z, hz, rfl⟩ := List.mem_map.1 hx
    exact (hok z hz).2.1
  · obtain ⟨z, hz, rfl⟩ := List.mem_map.1 hx
    exact (hok z hz).2.2
/-- How many bytes things that came in take. -/
structure WideB (c : Cfg) : Prop where
  p : c.programs.length * 24 ≤ 140737488351232
  q : ∀ x ∈ c.programs, x.length * 40 ≤ 140737488351232
  l : c.lps.length * 40 ≤ 140737488351232
  s : c.starts.length * 32 ≤ 140737488351232
set_option maxRecDepth 100000 in
theorem open_cfgB {v : Value} {d : DataW H} {p : List MemPlace} {r : Reach} {base2 : Nat} (h : DataW.Trod enc Tryz.prog w base spare held 26 v d p) (hv : Value.okWide Tryz.prog w r base2 26 v) (hw : Light Tryz.prog 26 d) :
    ∃ vs hs c, v = .agg vs.toArray ∧ (CfgA true vs hs c).at_ w (fun b => b < w.heap.size) ∧ Wide c ∧ WideB c := by
  obtain ⟨cs, rfl, _⟩ := okWide_struct Tryz.underlying26 hv
  obtain ⟨fuel, hf⟩ := h
  obtain ⟨xs, n, _, hd, hlen, hxl, hfs⟩ := DataW.trod_struct Tryz.underlying26 hf
  have z26 : Tryz.prog.cellsOf 26 = 6 := by kernel_rfl
  have zP : Tryz.prog.cellsOf 22 = 1 := by kernel_rfl
  have zL : Tryz.prog.cellsOf 23 = 1 := by kernel_rfl
  have zS : Tryz.prog.cellsOf 24 = 1 := by kernel_rfl
  have zI : Tryz.prog.cellsOf 3 = 1 := by kernel_rfl
  have b0 : Tryz.prog.bytesOf 105 = 24 := by kernel_rfl
  have b1 : Tryz.prog.bytesOf 115 = 40 := by kernel_rfl
  have b2 : Tryz.prog.bytesOf 74 = 40 := by kernel_rfl
  have b3 : Tryz.prog.bytesOf 108 = 32 := by kernel_rfl
  have e0 : (Value.agg cs).cells.toList = cs.toList := rfl
  rw [e0] at hfs hlen
  rw [z26] at hlen
  obtain ⟨c0, c1, c2, c3, c4, c5, hcs⟩ := list6 hlen
  obtain ⟨y0, y1, y2, y3, y4, y5, rfl⟩ := list6 (show xs.length = 6 from hxl)
  have hd2 : d = .agg [y0.1, y1.1, y2.1, y3.1, y4.1, y5.1] := (Prod.mk.inj hd).1
  have hw0 : ∀ n ∈ DataW.weightsEach Tryz.prog [22, 23, 24, 3, 3, 3] [y0.1, y1.1, y2.1, y3.1, y4.1, y5.1], n ≤ reachBytes := by
    rw [hd2] at hw
    unfold Light at hw
    simp only [DataW.weights, Tryz.underlying26] at hw
    exact hw
  have w0 : Light Tryz.prog 22 y0.1 := fun n hn => hw0 n (by simp [DataW.weightsEach, hn])
  have w1 : Light Tryz.prog 23 y1.1 := fun n hn => hw0 n (by simp [DataW.weightsEach, hn])
  have w2 : Light Tryz.prog 24 y2.1 := fun n hn => hw0 n (by simp [DataW.weightsEach, hn])
  have f0 : DataW.trod enc Tryz.prog w base spare held n 22 [c0] = some y0 := by
    have h : DataW.trod enc Tryz.prog w base spare held n 22 ((cs.toList.drop 0).take (Tryz.prog.cellsOf 22)) = some y0 := hfs 0 _ rfl
    rw [zP, hcs] at h
    exact h
  have f1 : DataW.trod enc Tryz.prog w base spare held n 23 [c1] = some y1 := by
    have h : DataW.trod enc Tryz.prog w base spare held n 23 ((cs.toList.drop 1).take (Tryz.prog.cellsOf 23)) = some y1 := hfs 1 _ rfl
    rw [zL, hcs] at h
    exact h
  have f2 : DataW.trod enc Tryz.prog w base spare held n 24 [c2] = some y2 := by
    have h : DataW.trod enc Tryz.prog w base spare held n 24 ((cs.toList.drop 2).take (Tryz.prog.cellsOf 24)) = some y2 := hfs 2 _ rfl
    rw [zS, hcs] at h
    exact h
  have f3 : DataW.trod enc Tryz.prog w base spare held n 3 [c3] = some y3 := by
    have h : DataW.trod enc Tryz.prog w base spare held n 3 ((cs.toList.drop 3).take (Tryz.prog.cellsOf 3)) = some y3 := hfs 3 _ rfl
    rw [zI, hcs] at h
    exact h
  have f4 : DataW.trod enc Tryz.prog w base spare held n 3 [c4] = some y4 := by
    have h : DataW.trod enc Tryz.prog w base spare held n 3 ((cs.toList.drop 4).take (Tryz.prog.cellsOf 3)) = some y4 := hfs 4 _ rfl
    rw [zI, hcs] at h
    exact h
  have f5 : DataW.trod enc Tryz.prog w base spare held n 3 [c5] = some y5 := by
    have h : DataW.trod enc Tryz.prog w base spare held n 3 ((cs.toList.drop 5).take (Tryz.prog.cellsOf 3)) = some y5 := hfs 5 _ rfl
    rw [zI, hcs] at h
    exact h
  obtain ⟨vP, hs, pss, g0, a0, b0', l0, m0, r0, q0⟩ := trod_slsB (ks := i5) Instr.cells 5 Tryz.underlying22 Tryz.underlying105 (by kernel_rfl) (by kernel_rfl) (by kernel_rfl) rfl (by decide) incells instr_dec f0 w0
  obtain ⟨vL, ls, g1, a1, l1, r1⟩ := trod_slB (ks := i5) Place.cells 5 Tryz.underlying23 (by kernel_rfl) (by kernel_rfl) rfl (by decide) plcells place_dec f1 w1
  obtain ⟨vS, ss, g2, a2, l2, r2⟩ := trod_slB (ks := i4) Start.cells 4 Tryz.underlying24 (by kernel_rfl) (by kernel_rfl) rfl (by decide) stcells start_dec f2 w2
  rw [b0] at r0
  rw [b1] at q0
  rw [b2] at r1
  rw [b3] at r2
  obtain ⟨n3, g3, _⟩ := DataW.trod_int Tryz.underlying3 f3
  obtain ⟨n4, g4, _⟩ := DataW.trod_int Tryz.underlying3 f4
  obtain ⟨n5, g5, _⟩ := DataW.trod_int Tryz.underlying3 f5
  cases g0; cases g1; cases g2; cases g3; cases g4; cases g5
  refine ⟨_, hs, ⟨pss, ls, ss, n3, n4, n5⟩, ?_, ⟨⟨⟨_, _, _, rfl, a0, a1, a2⟩, b0'⟩, fun _ h => h⟩, ⟨l0, m0, l1, l2⟩, ⟨r0, q0, r1, r2⟩⟩
  rw [← hcs]
theorem light_three {P : Program} {t1 t2 t3 : TypeId} {l : List TypeId} {d1 d2 d3 : DataW H} {gs : List (DataW H)} (h : (DataW.weightsEach P ([t1, t2, t3] ++ l) ([d1, d2, d3] ++ gs)).all (· ≤ reachBytes) = true) : Light P t1 d1 ∧ Light P t2 d2 ∧ Light P t3 d3 := by
  rw [List.all_eq_true] at h
  simp only [List.cons_append, List.nil_append, DataW.weightsEach, List.mem_append, decide_eq_true_eq] at h
  exact ⟨fun n hn => h n (.inl hn), fun n hn => h n (.inr (.inl hn)), fun n hn => h n (.inr (.inr (.inl hn)))⟩
end
end Go.Proofs.YtemgonomenjjaaaGreatDoor
/- Plain: the total order of events (by key, then by process, kind and data); a list sorted by it; events of one key counted once. No program in sight. -/
namespace Go.Proofs.YtemgonomenjjaaaGreatDoor
open Go

def Event.tup (e : Event) : Int × Int × Int × Int × Int × Int × Int := (e.key.at_, e.key.src, e.key.sent, e.key.no, e.dst, e.kind, e.data)
/-- a is ahead of b. -/
def evLt (a b : Event) : Prop :=
  a.key.at_ < b.key.at_ ∨ (a.key.at_ = b.key.at_ ∧ (a.key.src < b.key.src ∨ (a.key.src = b.key.src ∧ (a.key.sent < b.key.sent ∨ (a.key.sent = b.key.sent ∧ (a.key.no < b.key.no ∨ (a.key.no = b.key.no ∧
    (a.dst < b.dst ∨ (a.dst = b.dst ∧ (a.kind < b.kind ∨ (a.kind = b.kind ∧ a.data < b.data)))))))))))
instance (a b : Event) : Decidable (evLt a b) := by unfold evLt; infer_instance
theorem evLt_irrefl (a : Event) : ¬ evLt a a := by unfold evLt; omega
theorem evLt_trans {a b c : Event} (h : evLt a b) (k : evLt b c) : evLt a c := by unfold evLt at *; omega
theorem evLt_total {a b : Event} (h : ¬ evLt a b) (k : ¬ evLt b a) : a = b := by
  obtain ⟨⟨a1, a2, a3, a4⟩, a5, a6, a7⟩ := a; obtain ⟨⟨b1, b2, b3, b4⟩, b5, b6, b7⟩ := b
  unfold evLt at *
  simp only [Event.mk.injEq, Key.mk.injEq] at *
  omega
/-- Put in its place: behind what is not behind it. -/
def insTot (x : Event) : List Event → List Event
  | [] => [x]
  | y :: l => if evLt x y then x :: y :: l else y :: insTot x l
def sortT (l : List Event) : List Event := l.foldl (fun s x => insTot x s) []
theorem insTot_perm (x : Event) : ∀ l, (insTot x l).Perm (x :: l)
  | [] => .refl _
  | y :: l => by
    unfold insTot
    split
    · exact .refl _
    · exact ((insTot_perm x l).cons y).trans (.swap x y l)
def UpT (l : List Event) : Prop := l.Pairwise fun a b => ¬ evLt b a
theorem insTot_up (x : Event) : ∀ l, UpT l → UpT (insTot x l)
  | [], _ => by simp [insTot, UpT]
  | y :: l, h => by
    have h' := List.pairwise_cons.1 h
    unfold insTot
    split
    · rename_i hxy
      refine List.pairwise_cons.2 ⟨fun z hz => ?_, h⟩
      rcases List.mem_cons.1 hz with rfl | hz
      · exact fun k => evLt_irrefl _ (evLt_trans hxy k)
      · intro k
        exact h'.1 z hz (evLt_trans k hxy)
    · rename_i hxy
      refine List.pairwise_cons.2 ⟨fun z hz => ?_, insTot_up x l h'.2⟩
      rcases List.mem_cons.1 ((insTot_perm x l).mem_iff.1 hz) with rfl | hz
      · exact hxy
      · exact h'.1 z hz
theorem foldT_perm : ∀ (l s : List Event), (l.foldl (fun s x => insTot x s) s).Perm (l ++ s)
  | [], _ => .refl _
  | x :: l, s => (foldT_perm l (insTot x s)).trans (((insTot_perm x s).append_left l).trans List.perm_middle)
theorem foldT_up : ∀ (l s : List Event), UpT s → UpT (l.foldl (fun s x => insTot x s) s)
  | [], _, h => h
  | x :: l, _, h => foldT_up l _ (insTot_up x _ h)
theorem sortT_perm (l : List Event) : (sortT l).Perm l := (foldT_perm l []).trans (by rw [List.append_nil])
theorem sortT_up (l : List Event) : UpT (sortT l) := foldT_up l [] List.Pairwise.nil
/-- The sorted list is one. -/
theorem upT_eq {l m : List Event} (hp : l.Perm m) (hl : UpT l) (hm : UpT m) : l = m :=
  hp.eq_of_pairwise (fun _ _ _ _ h k => (evLt_total k h)) hl hm
theorem sortT_eq {l m : List Event} (hp : m.Perm l) (hm : UpT m) : m = sortT l := upT_eq (hp.trans (sortT_perm l).symm) hm (sortT_up l)
theorem sortT_of_perm {l m : List Event} (hp : l.Perm m) : sortT l = sortT m := sortT_eq ((sortT_perm l).trans hp) (sortT_up l)
/-- Of events of one key that stand together the first one. -/
def onceFrom : Option Key → List Event → List Event
  | _, [] => []
  | k, x :: l => if k = some x.key then onceFrom k l else x :: onceFrom (some x.key) l
def once (l : List Event) : List Event := onceFrom none l
end Go.Proofs.YtemgonomenjjaaaGreatDoor
/- Plain: the machine that runs a handler's program. No program in sight. -/
namespace Go.Proofs.YtemgonomenjjaaaGreatDoor
open Go Go.RowKit Mem

structure Emit where
  dst : Int
  delay : Int
  kind : Int
  data : Int
  deriving DecidableEq
instance : Inhabited Emit := ⟨⟨0, 0, 0, 0⟩⟩
def Emit.cells (x : Emit) : List Value := [.int .i64 x.dst, .int .i64 x.delay, .int .i64 x.kind, .int .i64 x.data]
theorem emcells : ∀ e : Emit, e.cells.length = 4 := fun _ => rfl
theorem emone : ∀ e : Emit, ∀ u ∈ e.cells, u.oneCell' = true := fun _ => by simp [Emit.cells, Value.oneCell']
/-- A handler at work: its numbers (eight), the place, what it has sent. -/
structure Mach where
  cs : List Int
  at_ : Int
  sent : List Emit
def Mach.get (m : Mach) (a : Int) : Int := m.cs[a.toNat]?.getD 0
def Mach.put (m : Mach) (a v : Int) : Mach := { m with cs := m.cs.set a.toNat v }
def reckonE (op b c : Int) : Int :=
  if op = 4 then wrap64 (b + wrap64 (-c)) else if op = 3 then wrap64 (b + c) else if op = 5 then wrap64 (b * c) else if op = 6 then (if c ≠ 0 then b.tmod c else 0) else if op = 7 then (if b < c then 1 else 0) else 0
/-- What an instruction that may be does; the machine stands behind it. -/
def doE (e : Event) (fan : Int) (m : Mach) (x : Instr) : Mach :=
  if x.op = 1 then m.put x.a x.b
  else if x.op = 2 then m.put x.a (m.get x.b)
  else if 3 ≤ x.op ∧ x.op ≤ 7 then m.put x.a (reckonE x.op (m.get x.b) (m.get x.c))
  else if x.op = 8 then { m with at_ := x.a }
  else if x.op = 9 then (if m.get x.a = 0 then { m with at_ := x.b } else m)
  else if x.op = 10 then m.put x.a e.key.at_
  else if x.op = 11 then m.put x.a e.kind
  else if x.op = 12 then m.put x.a e.data
  else if x.op = 13 then m.put x.a e.dst
  else if x.op = 14 then (if (m.sent.length : Int) < fan then { m with sent := m.sent ++ [⟨m.get x.a, m.get x.b, x.d, m.get x.c⟩] } else m)
  else m
/-- One step, if there is one. -/
def stepE (p : List Instr) (e : Event) (fan : Int) (m : Mach) : Option Mach :=
  if m.at_ < 0 ∨ (p.length : Int) ≤ m.at_ then none
  else match p[m.at_.toNat]? with
    | none => none
    | some x => if x.op = 15 ∨ mayE x p.length ≠ 0 then none else some (doE e fan { m with at_ := m.at_ + 1 } x)
def stepsE (p : List Instr) (e : Event) (fan : Int) : Nat → Mach → Mach
  | 0, m => m
  | f + 1, m => match stepE p e fan m with
    | none => m
    | some n => stepsE p e fan f n
def startE (s : State) : Mach := ⟨[s.n0, s.n1, s.n2, s.n3, 0, 0, 0, 0], 0, []⟩
theorem ite_len {c : Prop} [Decidable c] {a b : Mach} {n : Nat} (ha : a.cs.length = n) (hb : b.cs.length = n) : (if c then a else b).cs.length = n := by split <;> assumption
theorem doE_len (e : Event) (fan : Int) (m : Mach) (x : Instr) : (doE e fan m x).cs.length = m.cs.length := by
  unfold doE
  repeat' apply ite_len
  all_goals first | rfl | (unfold Mach.put; exact List.length_set)
/-- The cells of a machine. -/
def machCells (e : Event) (vp : Value) (m : Mach) (fan : Int) (vs : Value) : Array Value :=
  (e.cells ++ vp :: (m.cs.map (Value.int .i64) ++ [.int .i64 m.at_, .int .i64 fan, vs])).toArray
section
variable {e : Event} {vp vs u : Value} {m : Mach} {fan : Int}
theorem mach_ev {q : Nat} (hq : q < 7) (hu : e.cells[q]? = some u) : (machCells e vp m fan vs)[q]? = some u := by
  unfold machCells
  simp only [List.getElem?_toArray]
  rw [List.getElem?_append_left (by simpa [Event.cells] using hq)]; exact hu
theorem mach_prog : (machCells e vp m fan vs)[7]? = some vp := by simp [machCells, Event.cells]
theorem mach_cell (h8 : m.cs.length = 8) {a : Nat} (ha : a < 8) : (machCells e vp m fan vs)[8 + a]? = some (.int .i64 (m.get a)) := by
  unfold machCells Mach.get
  simp only [List.getElem?_toArray]
  rw [List.getElem?_append_right (by simp [Event.cells]; omega), show 8 + a - e.cells.length = a + 1 by simp [Event.cells]; omega, List.getElem?_cons_succ, List.getElem?_append_left (by simp [h8]; exact ha), List.getElem?_map]
  have : m.cs[a]? = some m.cs[a] := List.getElem?_eq_getElem (by omega)
  simp [this]
theorem mach_at (h8 : m.cs.length = 8) : (machCells e vp m fan vs)[16]? = some (.int .i64 m.at_) := by
  unfold machCells
  simp only [List.getElem?_toArray]
  rw [List.getElem?_append_right (by simp [Event.cells]), show 16 - e.cells.length = 8 + 1 by simp [Event.cells], List.getElem?_cons_succ, List.getElem?_append_right (by simp [h8])]
  simp [h8]
theorem mach_fan (h8 : m.cs.length = 8) : (machCells e vp m fan vs)[17]? = some (.int .i64 fan) := by
  unfold machCells
  simp only [List.getElem?_toArray]
  rw [List.getElem?_append_right (by simp [Event.cells]), show 17 - e.cells.length = 9 + 1 by simp [Event.cells], List.getElem?_cons_succ, List.getElem?_append_right (by simp [h8])]
  simp [h8]
theorem mach_sent (h8 : m.cs.length = 8) : (machCells e vp m fan vs)[18]? = some vs := by
  unfold machCells
  simp only [List.getElem?_toArray]
  rw [List.getElem?_append_right (by simp [Event.cells]), show 18 - e.cells.length = 10 + 1 by simp [Event.cells], List.getElem?_cons_succ, List.getElem?_append_right (by simp [h8])]
  simp [h8]
theorem mach_size (h8 : m.cs.length = 8) : (machCells e vp m fan vs).size = 19 := by simp [machCells, Event.cells, h8]
theorem mach_put (h8 : m.cs.length = 8) {a : Nat} (ha : a < 8) (v : Int) : (machCells e vp m fan vs).setIfInBounds (8 + a) (.int .i64 v) = machCells e vp (m.put a v) fan vs := by
  unfold machCells Mach.put
  rw [List.setIfInBounds_toArray]
  congr 1
  rw [List.set_append_right _ _ (by simp [Event.cells]; omega), show 8 + a - e.cells.length = a + 1 by simp [Event.cells]; omega, List.set_cons_succ, List.set_append_left _ _ (by simp [h8]; exact ha), List.map_set]
  simp
theorem mach_setat (h8 : m.cs.length = 8) (v : Int) : (machCells e vp m fan vs).setIfInBounds 16 (.int .i64 v) = machCells e vp { m with at_ := v } fan vs := by
  unfold machCells
  rw [List.setIfInBounds_toArray]
  congr 1
  rw [List.set_append_right _ _ (by simp [Event.cells]), show 16 - e.cells.length = 8 + 1 by simp [Event.cells], List.set_cons_succ, List.set_append_right _ _ (by simp [h8])]
  simp [h8]
theorem mach_setsent (h8 : m.cs.length = 8) (v : Value) (l : List Emit) : (machCells e vp m fan vs).setIfInBounds 18 v = machCells e vp { m with sent := l } fan v := by
  unfold machCells
  rw [List.setIfInBounds_toArray]
  congr 1
  rw [List.set_append_right _ _ (by simp [Event.cells]), show 18 - e.cells.length = 10 + 1 by simp [Event.cells], List.set_cons_succ, List.set_append_right _ _ (by simp [h8])]
  simp [h8]
end
end Go.Proofs.YtemgonomenjjaaaGreatDoor
/- The walk of vm.reckon. -/
namespace Go.Proofs.YtemgonomenjjaaaGreatDoor
open Go Go.RowKit Reg Mem

set_option maxRecDepth 100000 in
theorem reckon_calls (op b c : Int) (hop : 3 ≤ op ∧ op ≤ 7) (w : World) : Calls Tryz.prog 128 #[.int .i64 op, .int .i64 b, .int .i64 c] w fun r w' => r = .returned (.int .i64 (reckonE op b c)) ∧ Below w.heap.size w w' := by
  have S := St.init (fun _ => False) w
  obtain rfl | rfl | rfl | rfl | rfl : op = 3 ∨ op = 4 ∨ op = 5 ∨ op = 6 ∨ op = 7 := by omega
  · skip
    go_enter Tryz.func128, Tryz.ntmps128
    go_wp2_with first | ((with_reducible refine tot_done ?ht ?_); (case ht => kernel_rfl))
    go_ret
    exact ⟨ret_int (by simp [reckonE]), S.below⟩
  · skip
    go_enter Tryz.func128, Tryz.ntmps128
    go_wp2_with first | ((with_reducible refine tot_done ?ht ?_); (case ht => kernel_rfl))
    go_ret
    exact ⟨ret_int (by simp [reckonE]), S.below⟩
  · skip
    go_enter Tryz.func128, Tryz.ntmps128
    go_wp2_with first | ((with_reducible refine tot_done ?ht ?_); (case ht => kernel_rfl))
    go_ret
    exact ⟨ret_int (by simp [reckonE]), S.below⟩
  · by_cases h0 : c = 0
    · subst h0
      go_enter Tryz.func128, Tryz.ntmps128
      go_wp2_with first | ((with_reducible refine tot_done ?ht ?_); (case ht => kernel_rfl))
      go_ret
      exact ⟨ret_int (by simp [reckonE]), S.below⟩
    · have h1 : (c != 0) = true := by simpa using h0
      have HR := Lib.hid (show reckonE 6 b c = b.tmod c by simp [reckonE, h0])
      go_enter Tryz.func128, Tryz.ntmps128
      go_wp2_with first | ((with_reducible refine tot_done ?ht ?_); (case ht => kernel_rfl))
      go_ret
      exact ⟨ret_int HR.out.symm, S.below⟩
  · by_cases h0 : b < c
    · have HR := Lib.hid (show reckonE 7 b c = 1 by simp [reckonE, h0])
      go_enter Tryz.func128, Tryz.ntmps128
      go_wp2_with first | ((with_reducible refine tot_done ?ht ?_); (case ht => kernel_rfl))
      go_ret
      exact ⟨ret_int HR.out.symm, S.below⟩
    · have HR := Lib.hid (show reckonE 7 b c = 0 by simp [reckonE, h0])
      go_enter Tryz.func128, Tryz.ntmps128
      go_wp2_with first | ((with_reducible refine tot_done ?ht ?_); (case ht => kernel_rfl))
      go_ret
      exact ⟨ret_int HR.out.symm, S.below⟩
end Go.Proofs.YtemgonomenjjaaaGreatDoor
/- A region that draws its order, beside things that its hard operations turn. Over any program. -/
namespace Go.Proofs.YtemgonomenjjaaaGreatDoor.Mem
open Go Go.RowKit Reg
section
variable {P : Program} {ops : Array Oper} {Q : Exit → Act → World → Prop} {G : Nat → Prop} {w0 : World} {L : List Asn}
theorem wp_region_wt {id : Nat} {soft : List Nat} {a : Act} {w : World} {T : List Asn} (S : St G w0 w (L ++ T)) (hm : P.follows .mixedOrders = true) (hB : softB ops soft = true)
    (h : Softs P ops Q G w0 L (fun A => W P ops Q G w0 L (ops.size - soft.length) T (after soft (Array.replicate ops.size false)) A) soft a) : (Code.region id ops true).wp P Q a w := by
  simp only [softB, Bool.and_eq_true] at hB
  have hc : Closed .any ops (Array.replicate ops.size false) := fun j oj _ hl => by
    rw [Array.getD_eq_getD_getElem?] at hl
    by_cases hj : j < ops.size
    · rw [Array.getElem?_replicate, if_pos hj] at hl; cases hl
    · rw [Array.getElem?_replicate, if_neg hj] at hl; cases hl
  have hle := Nat.le_of_ble_eq_true hB.2
  have := W_softs hB.1.1 soft (ops.size - soft.length) T _ a hc hB.1.2 h
  rw [show ops.size - soft.length + soft.length = ops.size by omega] at this
  exact wp_region_any hm (W_any _ T _ a _ this (S.ext (keep_drew w)))
end
end Go.Proofs.YtemgonomenjjaaaGreatDoor.Mem
/- The walks of model.Check and New. -/
namespace Go.Proofs.YtemgonomenjjaaaGreatDoor
open Go Go.RowKit Reg Mem

set_option maxRecDepth 100000 in
theorem elem_In : Elem Tryz.prog 105 115 5 40 := ⟨_, .agg #[.int .i64 0, .int .i64 0, .int .i64 0, .int .i64 0, .int .i64 0], Tryz.underlying105, rfl, by kernel_rfl, by kernel_rfl, by kernel_rfl, by kernel_rfl, by omega⟩
set_option maxRecDepth 100000 in
theorem elem_Pl : Elem Tryz.prog 23 74 5 40 := ⟨_, .agg #[.int .i64 0, .int .i64 0, .int .i64 0, .int .i64 0, .int .i64 0], Tryz.underlying23, rfl, by kernel_rfl, by kernel_rfl, by kernel_rfl, by kernel_rfl, by omega⟩
set_option maxRecDepth 100000 in
theorem elem_Sta : Elem Tryz.prog 24 108 4 32 := ⟨_, .agg #[.int .i64 0, .int .i64 0, .int .i64 0, .int .i64 0], Tryz.underlying24, rfl, by kernel_rfl, by kernel_rfl, by kernel_rfl, by kernel_rfl, by omega⟩
set_option maxRecDepth 100000 in
/-- slices.Clone. -/
theorem clone_In {ad : Option Addr} {n c : Nat} {xs : List _} (w : World) (F : Nat → Prop) (h : (Sl true Instr.cells 5 (.slice ad n c) xs).at_ w F) (hn : xs.length ≤ 4294967296) :
    Calls Tryz.prog 46 #[.slice ad n c] w fun e w' => ∃ ad' c', e = .returned (.slice ad' xs.length c') ∧ (0 < xs.length → ∃ R, ad' = some ⟨R, 0, none⟩) ∧ St (fun _ => False) w w' [Own 115 Instr.cells 5 (.slice ad' xs.length c') xs] := by
  have S : St (fun _ => False) w w [Sl true Instr.cells 5 (.slice ad n c) xs] := (St.init _ w).share rfl rfl h
  have hq : ∀ (w : World) (a : Option Addr) (n c n' c' : Nat), (binOp .eql 105 (.slice a n c) (.slice none n' c')).run Tryz.prog w = .ok (.bool a.isNone) w := fun w a n c n' c' => Lib.run_eql_slice_nil w _ _ a n c n' c' Tryz.underlying105
  cases ad with
  | none =>
    have hx : xs = [] := by
      obtain ⟨a, c', e, h1, h2, _⟩ := h.1
      simp only [Value.slice.injEq] at e
      obtain ⟨rfl, rfl, rfl⟩ := e
      exact List.eq_nil_of_length_eq_zero (by have := h2 rfl; omega)
    subst hx
    go_enter Tryz.func46, Tryz.ntmps46
    go_wp2_with first | ((with_reducible refine tot_done ?ht ?_); (case ht => kernel_rfl))
    go_ret
    exact ⟨_, _, rfl, fun h => absurd h (by simp), ((S.nil 115 Instr.cells 5).pick [0] rfl)⟩
  | some a0 =>
    go_enter Tryz.func46, Tryz.ntmps46
    go_wp2_with first | ((with_reducible apply wps_build0 (T := 105) (E := 115) Instr.cells 5 S); (case hr => intro w; kernel_rfl); clear S; intro bz wz S) | ((with_reducible apply wps_appends elem_In incells inone (by decide) S 0 (j := 1)); (case hx | hy | hi | hj => rfl); (case hl => first | omega | (simp; omega)); clear S; intro az nz cz wz hnz S; simp only [List.set_cons_zero] at S)
    go_ret
    obtain rfl : nz = xs.length := by have := hnz.out; simp at this; omega
    simp only [List.nil_append] at S
    refine ⟨_, _, rfl, fun h0 => ?_, S.pick [0] rfl⟩
    obtain ⟨F, hF⟩ := S.get (i := 0) rfl
    rcases hF.1.2 with ⟨_, e⟩ | ⟨g, cap, cur, e, _⟩
    · omega
    · simp only [Value.slice.injEq] at e; exact ⟨g, e.1⟩
set_option maxRecDepth 100000 in
/-- slices.Clone. -/
theorem clone_Pl {ad : Option Addr} {n c : Nat} {xs : List _} (w : World) (F : Nat → Prop) (h : (Sl true Place.cells 5 (.slice ad n c) xs).at_ w F) (hn : xs.length ≤ 4294967296) :
    Calls Tryz.prog 47 #[.slice ad n c] w fun e w' => ∃ ad' c', e = .returned (.slice ad' xs.length c') ∧ (0 < xs.length → ∃ R, ad' = some ⟨R, 0, none⟩) ∧ St (fun _ => False) w w' [Own 74 Place.cells 5 (.slice ad' xs.length c') xs] := by
  have S : St (fun _ => False) w w [Sl true Place.cells 5 (.slice ad n c) xs] := (St.init _ w).share rfl rfl h
  have hq : ∀ (w : World) (a : Option Addr) (n c n' c' : Nat), (binOp .eql 23 (.slice a n c) (.slice none n' c')).run Tryz.prog w = .ok (.bool a.isNone) w := fun w a n c n' c' => Lib.run_eql_slice_nil w _ _ a n c n' c' Tryz.underlying23
  cases ad with
  | none =>
    have hx : xs = [] := by
      obtain ⟨a, c', e, h1, h2, _⟩ := h.1
      simp only [Value.slice.injEq] at e
      obtain ⟨rfl, rfl, rfl⟩ := e
      exact List.eq_nil_of_length_eq_zero (by have := h2 rfl; omega)
    subst hx
    go_enter Tryz.func47, Tryz.ntmps47
    go_wp2_with first | ((with_reducible refine tot_done ?ht ?_); (case ht => kernel_rfl))
    go_ret
    exact ⟨_, _, rfl, fun h => absurd h (by simp), ((S.nil 74 Place.cells 5).pick [0] rfl)⟩
  | some a0 =>
    go_enter Tryz.func47, Tryz.ntmps47
    go_wp2_with first | ((with_reducible apply wps_build0 (T := 23) (E := 74) Place.cells 5 S); (case hr => intro w; kernel_rfl); clear S; intro bz wz S) | ((with_reducible apply wps_appends elem_Pl plcells plone (by decide) S 0 (j := 1)); (case hx | hy | hi | hj => rfl); (case hl => first | omega | (simp; omega)); clear S; intro az nz cz wz hnz S; simp only [List.set_cons_zero] at S)
    go_ret
    obtain rfl : nz = xs.length := by have := hnz.out; simp at this; omega
    simp only [List.nil_append] at S
    refine ⟨_, _, rfl, fun h0 => ?_, S.pick [0] rfl⟩
    obtain ⟨F, hF⟩ := S.get (i := 0) rfl
    rcases hF.1.2 with ⟨_, e⟩ | ⟨g, cap, cur, e, _⟩
    · omega
    · simp only [Value.slice.injEq] at e; exact ⟨g, e.1⟩
set_option maxRecDepth 100000 in
/-- slices.Clone. -/
theorem clone_Sta {ad : Option Addr} {n c : Nat} {xs : List _} (w : World) (F : Nat → Prop) (h : (Sl true Start.cells 4 (.slice ad n c) xs).at_ w F) (hn : xs.length ≤ 4294967296) :
    Calls Tryz.prog 48 #[.slice ad n c] w fun e w' => ∃ ad' c', e = .returned (.slice ad' xs.length c') ∧ (0 < xs.length → ∃ R, ad' = some ⟨R, 0, none⟩) ∧ St (fun _ => False) w w' [Own 108 Start.cells 4 (.slice ad' xs.length c') xs] := by
  have S : St (fun _ => False) w w [Sl true Start.cells 4 (.slice ad n c) xs] := (St.init _ w).share rfl rfl h
  have hq : ∀ (w : World) (a : Option Addr) (n c n' c' : Nat), (binOp .eql 24 (.slice a n c) (.slice none n' c')).run Tryz.prog w = .ok (.bool a.isNone) w := fun w a n c n' c' => Lib.run_eql_slice_nil w _ _ a n c n' c' Tryz.underlying24
  cases ad with
  | none =>
    have hx : xs = [] := by
      obtain ⟨a, c', e, h1, h2, _⟩ := h.1
      simp only [Value.slice.injEq] at e
      obtain ⟨rfl, rfl, rfl⟩ := e
      exact List.eq_nil_of_length_eq_zero (by have := h2 rfl; omega)
    subst hx
    go_enter Tryz.func48, Tryz.ntmps48
    go_wp2_with first | ((with_reducible refine tot_done ?ht ?_); (case ht => kernel_rfl))
    go_ret
    exact ⟨_, _, rfl, fun h => absurd h (by simp), ((S.nil 108 Start.cells 4).pick [0] rfl)⟩
  | some a0 =>
    go_enter Tryz.func48, Tryz.ntmps48
    go_wp2_with first | ((with_reducible apply wps_build0 (T := 24) (E := 108) Start.cells 4 S); (case hr => intro w; kernel_rfl); clear S; intro bz wz S) | ((with_reducible apply wps_appends elem_Sta stcells stone (by decide) S 0 (j := 1)); (case hx | hy | hi | hj => rfl); (case hl => first | omega | (simp; omega)); clear S; intro az nz cz wz hnz S; simp only [List.set_cons_zero] at S)
    go_ret
    obtain rfl : nz = xs.length := by have := hnz.out; simp at this; omega
    simp only [List.nil_append] at S
    refine ⟨_, _, rfl, fun h0 => ?_, S.pick [0] rfl⟩
    obtain ⟨F, hF⟩ := S.get (i := 0) rfl
    rcases hF.1.2 with ⟨_, e⟩ | ⟨g, cap, cur, e, _⟩
    · omega
    · simp only [Value.slice.injEq] at e; exact ⟨g, e.1⟩
set_option maxRecDepth 100000 in
theorem zero_Hdr : zeroIs Tryz.prog 105 1 (vcell (.slice none 0 0)) := ⟨_, .slice none 0 0, rfl, by kernel_rfl, by kernel_rfl, rfl, by decide⟩
theorem within_or (n a b : Int) : withinE n a b = 0 ∨ withinE n a b = 10 := by unfold withinE; split <;> simp
theorem within_iff {n a b : Int} : withinE n a b = 0 ↔ a ≤ n ∧ n ≤ b := by
  unfold withinE; split <;> simp <;> omega
theorem sizes_eq (c : Cfg) : firstE [withinE c.lps.length 1 32, withinE c.programs.length 1 32, withinE c.fin 1 1073741824, withinE c.fuel 1 1024, withinE c.fan 0 8] = sizesE c := by
  obtain ⟨l, hl⟩ : ∃ l, [withinE c.lps.length 1 32, withinE c.programs.length 1 32, withinE c.fin 1 1073741824, withinE c.fuel 1 1024, withinE c.fan 0 8] = l := ⟨_, rfl⟩
  have hz : firstE l = 0 ↔ sizesOk c := by
    rw [firstE_zero, ← hl]
    simp only [List.mem_cons, List.not_mem_nil, or_false, forall_eq_or_imp, forall_eq, within_iff, sizesOk]
    omega
  rw [hl]
  unfold sizesE
  split
  · exact hz.2 ‹_›
  · rcases firstE_mem l with h | h
    · exact absurd (hz.1 h) ‹_›
    · have hn : firstE l ≠ 0 := fun h => absurd (hz.1 h) ‹_›
      rw [← hl] at h
      simp only [List.mem_cons, List.not_mem_nil, or_false] at h
      rw [hl] at h
      rcases h with h | h | h | h | h <;> rw [h] at hn ⊢
      · exact (within_or _ _ _).resolve_left hn
      · exact (within_or _ _ _).resolve_left hn
      · exact (within_or _ _ _).resolve_left hn
      · exact (within_or _ _ _).resolve_left hn
      · exact (within_or _ _ _).resolve_left hn
structure Mid (c : Cfg) : Prop where
  p : c.programs.length ≤ 65536
  l : c.lps.length ≤ 65536
  s : c.starts.length ≤ 65536
set_option maxRecDepth 100000 in
set_option maxHeartbeats 4000000 in
theorem mcheck_calls (vs hs : List Value) (c : Cfg) (w : World) (F F2 : Nat → Prop) (h : (CfgA true vs hs c).at_ w F) (ht : Tab.at_ w F2) (hm : Mid c) :
    Calls Tryz.prog 45 #[.agg vs.toArray] w fun r w' => r = .returned (.int .i64 (cfgE c)) ∧ Below w.heap.size w w' := by
  have S : St (fun _ => False) w w [CfgA true vs hs c, Tab] := ((St.init _ w).share rfl rfl ht).share rfl rfl h
  obtain ⟨aP, cP, aL, cL, aS, cS, rfl, hlen, S⟩ := S.cfg 0 rfl
  replace S := S.pick [0, 1, 2, 3, 5] rfl
  simp only [pick, nth] at S
  clear h ht
  have hm1 := hm.p
  have hm2 := hm.l
  have hm3 := hm.s
  obtain ⟨ps, ls, ss, fin, fuel, fan⟩ := c
  simp only at *
  obtain ⟨r, hr⟩ : ∃ r, cfgE ⟨ps, ls, ss, fin, fuel, fan⟩ = r := ⟨_, rfl⟩
  have hq := sizes_eq ⟨ps, ls, ss, fin, fuel, fan⟩
  simp only at hq
  have e : firstE [firstE [withinE ls.length 1 32, withinE ps.length 1 32, withinE fin 1 1073741824, withinE fuel 1 1024, withinE fan 0 8], (if 256 < ss.length then 11 else 0), firstE (ps.map codeE),
      (if (∀ p ∈ ls, plOk ps.length p) ∧ (∀ s ∈ ss, stOk ls.length s) then 0 else 14), (if ∀ s ∈ ss, 0 ≤ s.at_ ∧ s.at_ ≤ fin then 0 else 18)] = r := by
    rw [← hr, hq]; rfl
  rw [hr]
  obtain ⟨x1, hx1⟩ : ∃ x, firstE [withinE ls.length 1 32, withinE ps.length 1 32, withinE fin 1 1073741824, withinE fuel 1 1024, withinE fan 0 8] = x := ⟨_, rfl⟩
  obtain ⟨x2, hx2⟩ : ∃ x : Int, (if 256 < ss.length then 11 else 0) = x := ⟨_, rfl⟩
  obtain ⟨x3, hx3⟩ : ∃ x, firstE (ps.map codeE) = x := ⟨_, rfl⟩
  obtain ⟨x4, hx4⟩ : ∃ x : Int, (if (∀ p ∈ ls, plOk ps.length p) ∧ (∀ s ∈ ss, stOk ls.length s) then 0 else 14) = x := ⟨_, rfl⟩
  obtain ⟨x5, hx5⟩ : ∃ x : Int, (if ∀ s ∈ ss, 0 ≤ s.at_ ∧ s.at_ ≤ fin then 0 else 18) = x := ⟨_, rfl⟩
  have c1 := sizes_calls aP aL aS ps.length cP ls.length cL ss.length cS fin fuel fan
  have c2 := starts_calls aP aL aS ps.length cP ls.length cL ss.length cS fin fuel fan
  have c3 := fun w F1 F2 F3 h1 h2 h3 => programs_calls aP aL aS cP ls.length cL ss.length cS fin fuel fan hs ps w F1 F2 F3 h1 h2 h3 hm1
  have c4 := fun w F1 F2 h1 h2 => ends_calls aP aL aS ps.length cP cL cS fin fuel fan ls ss w F1 F2 h1 h2 hm2 hm3
  have c5 := fun w F1 h1 => times_calls aP aL aS ps.length cP ls.length cL cS fin fuel fan ss w F1 h1 hm3
  rw [hx1] at c1 e
  rw [hx2] at c2 e
  rw [hx3] at c3 e
  rw [hx4] at c4 e
  rw [hx5] at c5 e
  clear hx1 hx2 hx3 hx4 hx5 hr hq
  have C1 := Lib.hid c1
  have C2 := Lib.hid c2
  have C3 := Lib.hid c3
  have C4 := Lib.hid c4
  have C5 := Lib.hid c5
  have E := Lib.hid e
  clear c1 c2 c3 c4 c5 e
  go_enter Tryz.func45, Tryz.ntmps45
  go_wp2_with first | ((with_reducible apply wps_boxa S); (case hx => rfl); clear S; intro bx wz S)
  (refine wp_region_w (soft := [0, 1, 2, 3, 4, 5, 6, 7, 8, 9]) S ?hm ?hB ?_); (case hm => kernel_rfl); (case hB => decide +kernel); clear S
  iterate 10
    (with_reducible apply softs_cons)
    (case hw =>
      (with_reducible apply soft_of); (case hi => rfl)
      intro T wz S
      simp only [List.cons_append, List.nil_append] at S
      go_wp2_with first | (go_at_call 74; refine Calls.mono (C1.out _) ?_; rintro e wz ⟨rfl, hE⟩; replace S := S.ext (Keep.of_below hE); clear hE) | (go_at_call 75; refine Calls.mono (C2.out _) ?_; rintro e wz ⟨rfl, hE⟩; replace S := S.ext (Keep.of_below hE); clear hE) | (go_at_call 76; refine Calls.mono (C3.out _ _ _ _ (S.get (i := 2) rfl).choose_spec (S.get (i := 1) rfl).choose_spec (S.get (i := 5) rfl).choose_spec) ?_; rintro e wz ⟨rfl, hE⟩; replace S := S.ext (Keep.of_below hE); clear hE) | (go_at_call 77; refine Calls.mono (C4.out _ _ _ (S.get (i := 3) rfl).choose_spec (S.get (i := 4) rfl).choose_spec) ?_; rintro e wz ⟨rfl, hE⟩; replace S := S.ext (Keep.of_below hE); clear hE) | (go_at_call 78; refine Calls.mono (C5.out _ _ (S.get (i := 4) rfl).choose_spec) ?_; rintro e wz ⟨rfl, hE⟩; replace S := S.ext (Keep.of_below hE); clear hE) | ((with_reducible refine tot_done ?ht ?_); (case ht => kernel_rfl)) | ((with_reducible apply wps_loada (T := 26) (k := 6) S 0); (case hx | hi => rfl); (case hk => exact Nat.le_of_ble_eq_true rfl); (case hT => decide +kernel))
      exact ⟨rfl, S⟩)
    (case hs => exact ⟨_, rfl, by kernel_rfl⟩)
  refine softs_nil ?_
  repeat'
    (first
      | ((with_reducible apply W_hard1 (i := 10)); (case hn => rfl); (case hr => decide +kernel)) | ((with_reducible apply W_hard1 (i := 11)); (case hn => rfl); (case hr => decide +kernel)) | ((with_reducible apply W_hard1 (i := 12)); (case hn => rfl); (case hr => decide +kernel)) | ((with_reducible apply W_hard2 (i := 11) (i' := 12)); (case hn => rfl); (case hr => decide +kernel)))
    all_goals
      intro wz S
      (with_reducible apply hard_of); (case hi => rfl)
      simp only [List.cons_append, List.nil_append] at S
      try simp only [pick, nth] at S
      go_wp2_with first | ((with_reducible apply wps_buildSlice (T := 194) (E := 39) (cs := #[.int .i64 x1, .int .i64 x2, .int .i64 x3, .int .i64 x4, .int .i64 x5]) S); (case hr => intro w; kernel_rfl); clear S; intro bz wz S) | (go_at_call 73; refine Calls.mono (first_calls _ [x1, x2, x3, x4, x5] _ _ (blk_sl _ intE_len (S.get (i := 6) rfl).choose_spec rfl rfl) (Nat.le_of_ble_eq_true rfl)) ?_; rintro e wz ⟨rfl, hE⟩; replace S := S.ext (Keep.of_below hE); clear hE) | ((with_reducible refine tot_done ?ht ?_); (case ht => kernel_rfl))
      first
        | refine ⟨_, S.pick [1, 2, 3, 4, 5, 6, 7, 8, 9, 10, 0] rfl, ?_⟩
        | refine ⟨_, S.pick [1, 2, 3, 4, 5, 6, 7, 8, 9, 0] rfl, ?_⟩
        | refine ⟨_, S.pick [1, 2, 3, 4, 5, 6, 7, 8, 0] rfl, ?_⟩
        | refine ⟨_, S.pick [1, 2, 3, 4, 5, 6, 7, 0] rfl, ?_⟩
        | refine ⟨_, S.pick [1, 2, 3, 4, 5, 6, 0] rfl, ?_⟩
        | refine ⟨_, S, ?_⟩
  (with_reducible apply W_done); (case hn => rfl); (case hr => decide +kernel)
  clear S
  intro wz S
  simp only [List.cons_append, List.nil_append] at S
  try simp only [pick, nth] at S
  go_wp2_with first | ((with_reducible apply wps_loada (T := 26) (k := 6) S 0); (case hx | hi => rfl); (case hk => exact Nat.le_of_ble_eq_true rfl); (case hT => decide +kernel))
  go_ret
  exact ⟨ret_int E.out, S.below⟩
end Go.Proofs.YtemgonomenjjaaaGreatDoor
/- 'copy' between blocks that are known whole. Over any program. -/
namespace Go.Proofs.YtemgonomenjjaaaGreatDoor.Mem
open Go Go.RowKit Reg
section
variable {P : Program} {ops : Array Oper} {rest : List Oper} {a : Act} {Q : Exit → Act → World → Prop} {d : Option Tmp} {tt : TypeId} {p : String} {af : Array Edge} {gd : Option (Nat × Bool)} {x y : Operand}
variable {G : Nat → Prop} {w0 w w' : World} {L : List Asn}
theorem wps_copyb {b o dLen dCap b2 o2 sLen sCap : Nat} {cs cs2 : Array Value} {t t2 dT sT elem : TypeId} {sh : Bool} (S : St G w0 w L) (i : Nat) (hi : L[i]? = some (Blk false b cs t)) (j : Nat) (hj : L[j]? = some (Blk sh b2 cs2 t2)) (us : List Value)
    (hx : a.eval x = .slice (some ⟨b, o, none⟩) dLen dCap) (hy : a.eval y = .slice (some ⟨b2, o2, none⟩) sLen sCap) (hu : P.underlying dT = some (.slice elem)) (hsz : (match P.info? elem with | some i => i.size == 1 | none => false) = true)
    (hn : us.length = Nat.min sLen dLen) (hsrc : ∀ k v, us[k]? = some v → cs2[o2 + k]? = some v) (hfit : o + us.length ≤ cs.size) (h1 : us.all Value.oneCell' = true)
    (next : ∀ w', St G w0 w' (L.set i (Blk false b (splice cs o us) t)) → wpList P ops Q rest (a.put d (.int .i64 us.length)) w') (hgd : gOk gd ops a = true := by with_unfolding_all rfl) :
    wpList P ops Q ({ dst := d, op := .call { callee := .builtin .copy, args := #[x, y], argTypes := #[dT, sT] }, type := tt, pos := p, after := af, guard := gd } :: rest) a w :=
  wpList_ok hgd fun K hK => by
    have hs : (P.info? elem).map (·.size) = some 1 := by
      cases h : P.info? elem with
      | none => rw [h] at hsz; simp at hsz
      | some i => rw [h] at hsz; simpa using hsz
    have hr := run_copy_row (P := P) w dT sT tt elem b o dLen dCap ⟨b2, o2, none⟩ sLen sCap cs t us hu hs (S.blk i hi) hn
      (fun k v hk => by
        have : (Addr.add ⟨b2, o2, none⟩ k) = ⟨b2, o2 + k, none⟩ := by simp [Addr.add]
        rw [this, cell_of (S.blk j hj)]; exact hsrc k v hk) hfit (by simpa using h1)
    unfold Oper.wp execOp
    simp [resolve, invoke, builtin, hx, hy, hr, Result.andThen]
    refine hK _ _ (next _ (S.step hi rfl fun F hF => ⟨F, setRow_keep.mono (fun z _ hn e => hn ((hF.2 z).2 e)), ⟨?_, hF.2⟩, fun _ h => .inl h⟩))
    rw [show splice cs o us = (List.take o cs.toList ++ (us ++ List.drop (o + us.length) cs.toList)).toArray by simp [splice]]
    exact setRow_heap w b cs _ t _ (S.blk i hi)
end
end Go.Proofs.YtemgonomenjjaaaGreatDoor.Mem

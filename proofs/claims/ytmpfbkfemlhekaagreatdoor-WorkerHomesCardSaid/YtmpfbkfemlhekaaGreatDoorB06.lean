import Derived.Test.YtmpfbkfemlhekaaGreatDoorTie
import Derived.Test.YtmpfbkfemlhekaaGreatDoorCards
import Derived.Test.YtmpfbkfemlhekaaGreatDoorB01
import Derived.Test.YtmpfbkfemlhekaaGreatDoorB04
import Derived.Test.YtmpfbkfemlhekaaGreatDoorB05
import Derived.MakeChecks
import Derived.LaidMore
import Derived.Stop.Joined
import Derived.SevenTiedAt
import Derived.Test.YtmpfbkfemlhekaaGreatDoorB07
import Derived.Sort.Statements
import Derived.Test.YtmpfbkfemlhekaaGreatDoorB03
import Derived.Shelf.SlSortCmp.WholeK
import Derived.Shelf.SlSortCmp.Whole1
/- The table of ops, as the row's condition has it; and that the program's own door meets the condition. -/
namespace Go.Proofs.YtmpfbkfemlhekaaGreatDoor
open Go Go.ChangeShapes Go.WideShapes Go.ChangeAt Go.RowKit Mem

def tabLaid : List (String × DataW Unit) := [("boomerang/code.table", Rows.laid_boomerang_code_table)]
theorem door_met (os : Os) (args : Array Value) : laidMetH Tryz.prog tabLaid ((World.doorLaid Tryz.prog 59 os).forCall (fun _ _ => 0) ⟨#[], args, []⟩).memory :=
  laidMetH_of_parts3 (fuel := 8) (laidMet_of_run' 8 (by kernel_rfl) (by kernel_rfl)) (by kernel_rfl) (by kernel_rfl)
theorem gTable : Tryz.prog.globalNamed "boomerang/code.table" = some 0 := by kernel_rfl
theorem tTable : (Tryz.prog.globals[0]?).map (·.type) = some 359 := by kernel_rfl
theorem lay_some {P : Program} {t : TypeId} (h : (lay P 100 t).isSome = true) (h2 : P.cellsOf t = ((lay P 100 t).getD []).length) : ∃ ks, lay P 100 t = some ks ∧ P.cellsOf t = ks.length := by
  obtain ⟨ks, hk⟩ := Option.isSome_iff_exists.1 h
  exact ⟨ks, hk, by rw [h2, hk]; rfl⟩
set_option maxRecDepth 100000 in
theorem tab_of_laid {W : World} (h : laidMetH Tryz.prog tabLaid W) : Tab.at_ W (fun b => b = 0) := by
  rw [MakeChecks.laidMetH_plain _ _ _ (by kernel_rfl)] at h
  obtain ⟨ps, ⟨g0, t0, cs0, f0, p0, q0, hg0, ht0, hv0, hd0, _⟩, _⟩ := h
  obtain rfl := Option.some.inj (gTable.symm.trans hg0)
  obtain rfl := Option.some.inj (tTable.symm.trans ht0)
  obtain ⟨ks, hk, hc⟩ := lay_some (P := Tryz.prog) (t := 359) (by kernel_rfl) (by kernel_rfl)
  have e := trod_cells 100 359 ks hk hc _ _ _ hd0
  have e2 : cellsD 100 (Rows.laid_boomerang_code_table : DataW Unit) = flatE About.cells table := by kernel_rfl
  have e3 : cs0.toList = flatE About.cells table := e.trans e2
  have hcell : ∀ i, W.cell? ⟨0, i, none⟩ = (flatE About.cells table)[i]? := fun i => by
    rw [World.var?_cell gTable hv0 i, ← e3, Array.getElem?_toList]
  have acells : ∀ x : About, x.cells.length = 6 := fun _ => rfl
  refine ⟨⟨some ⟨0, 0, none⟩, 16, rfl, by rw [table_len]; exact Nat.le_refl _, (fun h => by cases h), fun i x hi => ⟨0, 0, rfl, rfl, fun j u hj => ?_⟩⟩, fun b hb => ?_⟩
  · have hj6 : j < 6 := by rw [← acells x]; exact (List.getElem?_eq_some_iff.1 hj).1
    rw [hcell, Nat.zero_add, flatE_get acells hi j hj6]
    exact hj
  · subst hb
    have h0 := hcell 0
    cases hz : W.heap[0]? with
    | none => exfalso; simp only [World.cell?, hz] at h0; exact absurd h0 (by rw [flatE_get acells (i := 0) (x := table[0]) rfl 0 (by decide)]; simp [About.cells])
    | some o => exact (Array.getElem?_eq_some_iff.1 hz).1
end Go.Proofs.YtmpfbkfemlhekaaGreatDoor
/- Two things that are owned, as one; a new model out of its parts. -/
namespace Go.Proofs.YtmpfbkfemlhekaaGreatDoor
open Go Go.RowKit Mem

theorem loc_of {A : Asn} {w w' : World} {F F1 : Nat → Prop} (h : A.at_ w F1) (hF : ∀ b, F1 b → F b) (hb : ∀ b, F b → w'.heap[b]? = w.heap[b]?) : A.at_ w' F1 := A.loc h fun b h => hb b (hF b h)
def Both (A B : Asn) : Asn where
  sh := false
  at_ w F := ∃ F1 F2, A.at_ w F1 ∧ B.at_ w F2 ∧ ∀ b, F b ↔ F1 b ∨ F2 b
  loc h hb := let ⟨F1, F2, h1, h2, h3⟩ := h; ⟨F1, F2, loc_of h1 (fun b h => (h3 b).2 (.inl h)) hb, loc_of h2 (fun b h => (h3 b).2 (.inr h)) hb, h3⟩
  lt h b hb := let ⟨_, _, h1, h2, h3⟩ := h; ((h3 b).1 hb).elim (A.lt h1 b) (B.lt h2 b)
section
variable {G : Nat → Prop} {w0 w : World} {L : List Asn} {A B : Asn}
theorem Mem.St.both (S : St G w0 w (A :: B :: L)) (hA : A.sh = false) (hB : B.sh = false) : St G w0 w (Both A B :: L) :=
  S.merge _ hA hB rfl fun F F' h h' => ⟨F, F', h, h', fun _ => Iff.rfl⟩
theorem Mem.St.modNew {T : TypeId} {R : Nat} {vP vL vS : Value} {hs : List Value} {ps : List (List Instr)} {ls : List Place} {ss : List Start} {fin fuel fan : Int}
    (S : St G w0 w (Blk false R #[vP, vL, vS, .int .i64 fin, .int .i64 fuel, .int .i64 fan] T :: Sl false vcell 1 vP hs :: Sl false Place.cells 5 vL ls :: Sl false Start.cells 4 vS ss :: Sls false Instr.cells 5 hs ps :: L)) :
    St G w0 w (ModA false T R [vP, vL, vS, .int .i64 fin, .int .i64 fuel, .int .i64 fan] hs ⟨ps, ls, ss, fin, fuel, fan⟩ :: L) := by
  have S1 := (((S.both rfl rfl).both rfl rfl).both rfl rfl).both rfl rfl
  have := S1.weak (i := 0) (A' := ModA false T R [vP, vL, vS, .int .i64 fin, .int .i64 fuel, .int .i64 fan] hs ⟨ps, ls, ss, fin, fuel, fan⟩) rfl (fun _ => rfl) fun F h => ?_
  · simpa using this
  · obtain ⟨F1, F2, ⟨F3, F4, ⟨F5, F6, ⟨F7, F8, h1, h2, e4⟩, h3, e3⟩, h4, e2⟩, h5, e1⟩ := h
    have i1 : ∀ b, F7 b → F b := fun b h => (e1 b).2 (.inl ((e2 b).2 (.inl ((e3 b).2 (.inl ((e4 b).2 (.inl h)))))))
    have i2 : ∀ b, F8 b → F b := fun b h => (e1 b).2 (.inl ((e2 b).2 (.inl ((e3 b).2 (.inl ((e4 b).2 (.inr h)))))))
    have i3 : ∀ b, F6 b → F b := fun b h => (e1 b).2 (.inl ((e2 b).2 (.inl ((e3 b).2 (.inr h)))))
    have i4 : ∀ b, F4 b → F b := fun b h => (e1 b).2 (.inl ((e2 b).2 (.inr h)))
    have i5 : ∀ b, F2 b → F b := fun b h => (e1 b).2 (.inr h)
    refine ⟨F, fun _ h => h, ⟨⟨h1.1, i1 R ((h1.2 R).2 rfl), ⟨⟨vP, vL, vS, rfl, h2.1.mono i2, h3.1.mono i3, h4.1.mono i4⟩, h5.1.mono i5⟩⟩, fun b hb => ?_⟩⟩
    rcases (e1 b).1 hb with h | h
    · rcases (e2 b).1 h with h | h
      · rcases (e3 b).1 h with h | h
        · rcases (e4 b).1 h with h | h
          · exact (Blk false R _ T).lt h1 b h
          · exact h2.2 b h
        · exact h3.2 b h
      · exact h4.2 b h
    · exact h5.2 b h
end
theorem firstE_mem (l : List Int) : firstE l = 0 ∨ firstE l ∈ l := by
  induction l with
  | nil => simp [firstE]
  | cons x l ih => by_cases h : x = 0 <;> simp [firstE, h]; exact ih.elim .inl fun h => .inr h
theorem hset {l m : List Value} {x y : Value} {k : Nat} (h : k = l.length) : (l ++ x :: m).set k y = (l ++ [y]) ++ m := by subst h; simp
end Go.Proofs.YtmpfbkfemlhekaaGreatDoor
/- Opening a configuration that came in. -/
namespace Go.Proofs.YtmpfbkfemlhekaaGreatDoor
open Go Go.ChangeShapes Go.WideShapes Go.ChangeAt Go.RowKit Mem

abbrev i5 : List TypeDesc := [.int .i64, .int .i64, .int .i64, .int .i64, .int .i64]
theorem dec5 {vs : List Value} (h0 : fits i5 vs = true) : ∃ a b c d e : Int, vs = [.int .i64 a, .int .i64 b, .int .i64 c, .int .i64 d, .int .i64 e] := by
  obtain ⟨a, v1, rfl, h1⟩ := fits_cons_int h0
  obtain ⟨b, v2, rfl, h2⟩ := fits_cons_int h1
  obtain ⟨c, v3, rfl, h3⟩ := fits_cons_int h2
  obtain ⟨d, v4, rfl, h4⟩ := fits_cons_int h3
  obtain ⟨e, v5, rfl, h5⟩ := fits_cons_int h4
  obtain rfl := fits_none h5
  exact ⟨a, b, c, d, e, rfl⟩
theorem dec4 {vs : List Value} (h0 : fits i4 vs = true) : ∃ a b c d : Int, vs = [.int .i64 a, .int .i64 b, .int .i64 c, .int .i64 d] := by
  obtain ⟨a, v1, rfl, h1⟩ := fits_cons_int h0
  obtain ⟨b, v2, rfl, h2⟩ := fits_cons_int h1
  obtain ⟨c, v3, rfl, h3⟩ := fits_cons_int h2
  obtain ⟨d, v4, rfl, h4⟩ := fits_cons_int h3
  obtain rfl := fits_none h4
  exact ⟨a, b, c, d, rfl⟩
theorem instr_dec : ∀ vs, fits i5 vs = true → (∀ v ∈ vs, wfv v = true) → ∃ k : Instr, k.cells = vs ∧ True := fun vs h _ => by
  obtain ⟨a, b, c, d, e, rfl⟩ := dec5 h; exact ⟨⟨a, b, c, d, e⟩, rfl, trivial⟩
theorem place_dec : ∀ vs, fits i5 vs = true → (∀ v ∈ vs, wfv v = true) → ∃ k : Place, k.cells = vs ∧ True := fun vs h _ => by
  obtain ⟨a, b, c, d, e, rfl⟩ := dec5 h; exact ⟨⟨a, ⟨b, c, d, e⟩⟩, rfl, trivial⟩
theorem start_dec : ∀ vs, fits i4 vs = true → (∀ v ∈ vs, wfv v = true) → ∃ k : Start, k.cells = vs ∧ True := fun vs h _ => by
  obtain ⟨a, b, c, d, rfl⟩ := dec4 h; exact ⟨⟨a, b, c, d⟩, rfl, trivial⟩
section
variable {H : Type} {enc : TypeId × Value → H} {w : World} {base : Nat} {spare : Nat → Bool} {held : Bool}
theorem trod_sl {P : Program} {t e : TypeId} {ks : List TypeDesc} {α : Type} (en : α → List Value) (k : Nat) (ht : P.underlying t = some (.slice e)) (hl : lay P 100 e = some ks) (hk : P.cellsOf e = ks.length) (hkk : ks.length = k) (h0 : 0 < k) (hen : ∀ x, (en x).length = k)
    (dec : ∀ vs, fits ks vs = true → (∀ v ∈ vs, wfv v = true) → ∃ x : α, en x = vs ∧ True) {fuel : Nat} {cs : List Value} {x : DataW H × List MemPlace} (hf : DataW.trod enc P w base spare held fuel t cs = some x) :
    ∃ v, ∃ xs : List α, cs = [v] ∧ SlAt en k w (fun b => b < w.heap.size) v xs ∧ xs.length ≤ maxLen := by
  obtain ⟨a, c, xs, hcs, h1, hc2, h2, _, hc⟩ := open_slice_flat en (fun _ => True) ht hl hk (by omega) dec hf
  refine ⟨_, xs, hcs, ⟨a, c, rfl, h1, fun e => (h2 e).2, fun i y hi => ?_⟩, by omega⟩
  obtain ⟨R, o, e, hcell⟩ := hc i y hi
  refine ⟨R, o, e, ?_, fun j u hj => by rw [← hkk]; exact hcell j u hj⟩
  have hy : 0 < (en y).length := by rw [hen]; exact h0
  have := hcell 0 _ (List.getElem?_eq_getElem hy)
  exact Nat.lt_of_not_le fun hge => by simp [World.cell?, Array.getElem?_eq_none hge] at this
structure Wide (c : Cfg) : Prop where
  p : c.programs.length ≤ maxLen
  q : ∀ x ∈ c.programs, x.length ≤ maxLen
  l : c.lps.length ≤ maxLen
  s : c.starts.length ≤ maxLen
theorem list6 {α : Type} : ∀ {l : List α}, l.length = 6 → ∃ a b c d e f, l = [a, b, c, d, e, f]
  | [a, b, c, d, e, f], _ => ⟨a, b, c, d, e, f, rfl⟩
end
end Go.Proofs.YtmpfbkfemlhekaaGreatDoor
/- Opening a configuration that came in, with the bytes that it takes. -/
namespace Go.Proofs.YtmpfbkfemlhekaaGreatDoor
open Go Go.ChangeShapes Go.WideShapes Go.ChangeAt Go.RowKit Mem Go.Deep

section
variable {H : Type} {enc : TypeId × Value → H} {w : World} {base : Nat} {spare : Nat → Bool} {held : Bool}
def Light (P : Program) (t : TypeId) (d : DataW H) : Prop := ∀ n ∈ d.weights P t, n ≤ reachBytes
theorem light_all {P : Program} {e : TypeId} : ∀ {l : List (DataW H)}, (∀ n ∈ DataW.weightsAll P e l, n ≤ reachBytes) → ∀ d ∈ l, Light P e d
  | [], _, d, hd => by cases hd
  | x :: l, h, d, hd => by
    simp only [DataW.weightsAll, List.mem_append] at h
    rcases List.mem_cons.1 hd with rfl | hd
    · exact fun n hn => h n (.inl hn)
    · exact light_all (fun n hn => h n (.inr hn)) d hd
theorem light_slice {P : Program} {t e : TypeId} (ht : P.underlying t = some (.slice e)) {es sp : List (DataW H)} (h : Light P t (.slice es sp)) : (es.length + sp.length) * P.bytesOf e ≤ reachBytes ∧ ∀ d ∈ es, Light P e d := by
  unfold Light at h
  simp only [DataW.weights, ht, List.mem_cons, List.mem_append] at h
  exact ⟨h _ (.inl rfl), light_all fun n hn => h n (.inr (.inl hn))⟩
theorem sl_bytes {P : Program} {t e : TypeId} (ht : P.underlying t = some (.slice e)) {fuel : Nat} {cs : List Value} {x : DataW H × List MemPlace} (hf : DataW.trod enc P w base spare held fuel t cs = some x) {a : Option Addr} {len c : Nat} (hcs : cs = [.slice a len c]) (hw : Light P t x.1) :
    len * P.bytesOf e ≤ reachBytes := by
  rcases open_slice ht hf with ⟨rfl, _⟩ | ⟨a', len', cap, m, n, D, Pl, rfl, _, _, _, _, rfl, _⟩
  · simp only [List.cons.injEq, Value.slice.injEq] at hcs
    obtain ⟨⟨_, rfl, _⟩, _⟩ := hcs
    simp
  · simp only [List.cons.injEq, Value.slice.injEq] at hcs
    obtain ⟨⟨_, rfl, _⟩, _⟩ := hcs
    have := (light_slice ht hw).1
    simp only [List.length_map, List.length_range] at this
    exact Nat.le_trans (Nat.mul_le_mul_right _ (by omega)) this
theorem trod_slB {P : Program} {t e : TypeId} {ks : List TypeDesc} {α : Type} (en : α → List Value) (k : Nat) (ht : P.underlying t = some (.slice e)) (hl : lay P 100 e = some ks) (hk : P.cellsOf e = ks.length) (hkk : ks.length = k) (h0 : 0 < k) (hen : ∀ x, (en x).length = k)
    (dec : ∀ vs, fits ks vs = true → (∀ v ∈ vs, wfv v = true) → ∃ x : α, en x = vs ∧ True) {fuel : Nat} {cs : List Value} {x : DataW H × List MemPlace} (hf : DataW.trod enc P w base spare held fuel t cs = some x) (hw : Light P t x.1) :
    ∃ v, ∃ xs : List α, cs = [v] ∧ SlAt en k w (fun b => b < w.heap.size) v xs ∧ xs.length ≤ maxLen ∧ xs.length * P.bytesOf e ≤ reachBytes := by
  obtain ⟨v, xs, h1, h2, h3⟩ := trod_sl en k ht hl hk hkk h0 hen dec hf
  obtain ⟨a, c, rfl, _⟩ := h2.form
  exact ⟨_, xs, h1, h2, h3, sl_bytes ht hf h1 hw⟩
theorem trod_slsB {P : Program} {t e e2 : TypeId} {ks : List TypeDesc} {α : Type} (en : α → List Value) (k : Nat) (ht : P.underlying t = some (.slice e)) (he : P.underlying e = some (.slice e2)) (hce : P.cellsOf e = 1) (hl : lay P 100 e2 = some ks) (hk : P.cellsOf e2 = ks.length) (hkk : ks.length = k) (h0 : 0 < k) (hen : ∀ x, (en x).length = k)
    (dec : ∀ vs, fits ks vs = true → (∀ v ∈ vs, wfv v = true) → ∃ x : α, en x = vs ∧ True) {fuel : Nat} {cs : List Value} {x : DataW H × List MemPlace} (hf : DataW.trod enc P w base spare held fuel t cs = some x) (hw : Light P t x.1) :
    ∃ v, ∃ hs : List Value, ∃ xss : List (List α), cs = [v] ∧ SlAt vcell 1 w (fun b => b < w.heap.size) v hs ∧ SlsAt en k w (fun b => b < w.heap.size) hs xss ∧ xss.length ≤ maxLen ∧ (∀ xs ∈ xss, xs.length ≤ maxLen) ∧ xss.length * P.bytesOf e ≤ reachBytes ∧ ∀ xs ∈ xss, xs.length * P.bytesOf e2 ≤ reachBytes := by
  obtain ⟨a, c, ys, hcs, h1, hc2, h2, hok, hc⟩ := open_slice_anyW (α := Value × List α) (k := 1) (fun y => [y.1]) (fun y => SlAt en k w (fun b => b < w.heap.size) y.1 y.2 ∧ y.2.length ≤ maxLen ∧ y.2.length * P.bytesOf e2 ≤ reachBytes) (Light P e) ht hce (by omega)
    (fun n vs x hx hwx => by obtain ⟨v, xs, h3, h4, h5, h6⟩ := trod_slB en k he hl hk hkk h0 hen dec hx hwx; exact ⟨(v, xs), h3.symm, h4, h5, h6⟩) hf
    (fun es sp e => (light_slice ht (by rw [← e]; exact hw)).2)
  refine ⟨_, ys.map (·.1), ys.map (·.2), hcs, ⟨a, c, by simp, by simpa using h1, fun e => (h2 e).2, fun i y hi => ?_⟩, ⟨by simp, fun i v xs hv hx => ?_⟩, by simp; omega, fun xs hx => ?_, by simpa using sl_bytes ht hf hcs hw, fun xs hx => ?_⟩
  · rw [List.getElem?_map] at hi
    cases hy : ys[i]? with
    | none => rw [hy] at hi; cases hi
    | some z =>
      rw [hy] at hi; simp at hi; subst hi
      obtain ⟨R, o, e, hcell⟩ := hc i z hy
      refine ⟨R, o, e, ?_, fun j u hj => hcell j u hj⟩
      have := hcell 0 _ rfl
      exact Nat.lt_of_not_le fun hge => by simp [World.cell?, Array.getElem?_eq_none hge] at this
  · rw [List.getElem?_map] at hv hx
    cases hy : ys[i]? with
    | none => rw [hy] at hv; cases hv
    | some z =>
      rw [hy] at hv hx; simp at hv hx; subst hv; subst hx
      exact (hok z (List.mem_of_getElem? hy)).1
  · obtain ⟨z, hz, rfl⟩ := List.mem_map.1 hx
    exact (hok z hz).2.1
  · obtain ⟨z, hz, rfl⟩ := List.mem_map.1 hx
    exact (hok z hz).2.2
structure WideB (c : Cfg) : Prop where
  p : c.programs.length * 24 ≤ 140737488351232
  q : ∀ x ∈ c.programs, x.length * 40 ≤ 140737488351232
  l : c.lps.length * 40 ≤ 140737488351232
  s : c.starts.length * 32 ≤ 140737488351232
set_option maxRecDepth 100000 in
theorem open_cfgB {v : Value} {d : DataW H} {p : List MemPlace} {r : Reach} {base2 : Nat} (h : DataW.Trod enc Tryz.prog w base spare held 26 v d p) (hv : Value.okWide Tryz.prog w r base2 26 v) (hw : Light Tryz.prog 26 d) :
    ∃ vs hs c, v = .agg vs.toArray ∧ (CfgA true vs hs c).at_ w (fun b => b < w.heap.size) ∧ Wide c ∧ WideB c := by
  obtain ⟨cs, rfl, _⟩ := okWide_struct Tryz.underlying26 hv
  obtain ⟨fuel, hf⟩ := h
  obtain ⟨xs, n, _, hd, hlen, hxl, hfs⟩ := DataW.trod_struct Tryz.underlying26 hf
  have z26 : Tryz.prog.cellsOf 26 = 6 := by kernel_rfl
  have zP : Tryz.prog.cellsOf 22 = 1 := by kernel_rfl
  have zL : Tryz.prog.cellsOf 23 = 1 := by kernel_rfl
  have zS : Tryz.prog.cellsOf 24 = 1 := by kernel_rfl
  have zI : Tryz.prog.cellsOf 3 = 1 := by kernel_rfl
  have b0 : Tryz.prog.bytesOf 153 = 24 := by kernel_rfl
  have b1 : Tryz.prog.bytesOf 162 = 40 := by kernel_rfl
  have b2 : Tryz.prog.bytesOf 155 = 40 := by kernel_rfl
  have b3 : Tryz.prog.bytesOf 103 = 32 := by kernel_rfl
  have e0 : (Value.agg cs).cells.toList = cs.toList := rfl
  rw [e0] at hfs hlen
  rw [z26] at hlen
  obtain ⟨c0, c1, c2, c3, c4, c5, hcs⟩ := list6 hlen
  obtain ⟨y0, y1, y2, y3, y4, y5, rfl⟩ := list6 (show xs.length = 6 from hxl)
  have hd2 : d = .agg [y0.1, y1.1, y2.1, y3.1, y4.1, y5.1] := (Prod.mk.inj hd).1
  have hw0 : ∀ n ∈ DataW.weightsEach Tryz.prog [22, 23, 24, 3, 3, 3] [y0.1, y1.1, y2.1, y3.1, y4.1, y5.1], n ≤ reachBytes := by
    rw [hd2] at hw
    unfold Light at hw
    simp only [DataW.weights, Tryz.underlying26] at hw
    exact hw
  have w0 : Light Tryz.prog 22 y0.1 := fun n hn => hw0 n (by simp [DataW.weightsEach, hn])
  have w1 : Light Tryz.prog 23 y1.1 := fun n hn => hw0 n (by simp [DataW.weightsEach, hn])
  have w2 : Light Tryz.prog 24 y2.1 := fun n hn => hw0 n (by simp [DataW.weightsEach, hn])
  have f0 : DataW.trod enc Tryz.prog w base spare held n 22 [c0] = some y0 := by
    have h : DataW.trod enc Tryz.prog w base spare held n 22 ((cs.toList.drop 0).take (Tryz.prog.cellsOf 22)) = some y0 := hfs 0 _ rfl
    rw [zP, hcs] at h
    exact h
  have f1 : DataW.trod enc Tryz.prog w base spare held n 23 [c1] = some y1 := by
    have h : DataW.trod enc Tryz.prog w base spare held n 23 ((cs.toList.drop 1).take (Tryz.prog.cellsOf 23)) = some y1 := hfs 1 _ rfl
    rw [zL, hcs] at h
    exact h
  have f2 : DataW.trod enc Tryz.prog w base spare held n 24 [c2] = some y2 := by
    have h : DataW.trod enc Tryz.prog w base spare held n 24 ((cs.toList.drop 2).take (Tryz.prog.cellsOf 24)) = some y2 := hfs 2 _ rfl
    rw [zS, hcs] at h
    exact h
  have f3 : DataW.trod enc Tryz.prog w base spare held n 3 [c3] = some y3 := by
    have h : DataW.trod enc Tryz.prog w base spare held n 3 ((cs.toList.drop 3).take (Tryz.prog.cellsOf 3)) = some y3 := hfs 3 _ rfl
    rw [zI, hcs] at h
    exact h
  have f4 : DataW.trod enc Tryz.prog w base spare held n 3 [c4] = some y4 := by
    have h : DataW.trod enc Tryz.prog w base spare held n 3 ((cs.toList.drop 4).take (Tryz.prog.cellsOf 3)) = some y4 := hfs 4 _ rfl
    rw [zI, hcs] at h
    exact h
  have f5 : DataW.trod enc Tryz.prog w base spare held n 3 [c5] = some y5 := by
    have h : DataW.trod enc Tryz.prog w base spare held n 3 ((cs.toList.drop 5).take (Tryz.prog.cellsOf 3)) = some y5 := hfs 5 _ rfl
    rw [zI, hcs] at h
    exact h
  obtain ⟨vP, hs, pss, g0, a0, b0', l0, m0, r0, q0⟩ := trod_slsB (ks := i5) Instr.cells 5 Tryz.underlying22 Tryz.underlying153 (by kernel_rfl) (by kernel_rfl) (by kernel_rfl) rfl (by decide) incells instr_dec f0 w0
  obtain ⟨vL, ls, g1, a1, l1, r1⟩ := trod_slB (ks := i5) Place.cells 5 Tryz.underlying23 (by kernel_rfl) (by kernel_rfl) rfl (by decide) plcells place_dec f1 w1
  obtain ⟨vS, ss, g2, a2, l2, r2⟩ := trod_slB (ks := i4) Start.cells 4 Tryz.underlying24 (by kernel_rfl) (by kernel_rfl) rfl (by decide) stcells start_dec f2 w2
  rw [b0] at r0
  rw [b1] at q0
  rw [b2] at r1
  rw [b3] at r2
  obtain ⟨n3, g3, _⟩ := DataW.trod_int Tryz.underlying3 f3
  obtain ⟨n4, g4, _⟩ := DataW.trod_int Tryz.underlying3 f4
  obtain ⟨n5, g5, _⟩ := DataW.trod_int Tryz.underlying3 f5
  cases g0; cases g1; cases g2; cases g3; cases g4; cases g5
  refine ⟨_, hs, ⟨pss, ls, ss, n3, n4, n5⟩, ?_, ⟨⟨⟨_, _, _, rfl, a0, a1, a2⟩, b0'⟩, fun _ h => h⟩, ⟨l0, m0, l1, l2⟩, ⟨r0, q0, r1, r2⟩⟩
  rw [← hcs]
theorem light_three {P : Program} {t1 t2 t3 : TypeId} {l : List TypeId} {d1 d2 d3 : DataW H} {gs : List (DataW H)} (h : (DataW.weightsEach P ([t1, t2, t3] ++ l) ([d1, d2, d3] ++ gs)).all (· ≤ reachBytes) = true) : Light P t1 d1 ∧ Light P t2 d2 ∧ Light P t3 d3 := by
  rw [List.all_eq_true] at h
  simp only [List.cons_append, List.nil_append, DataW.weightsEach, List.mem_append, decide_eq_true_eq] at h
  exact ⟨fun n hn => h n (.inl hn), fun n hn => h n (.inr (.inl hn)), fun n hn => h n (.inr (.inr (.inl hn)))⟩
end
end Go.Proofs.YtmpfbkfemlhekaaGreatDoor
/- Plain: the total order of events (by key, then by process, kind and data); a list sorted by it; events of one key counted once. No program in sight. -/
namespace Go.Proofs.YtmpfbkfemlhekaaGreatDoor
open Go

def Event.tup (e : Event) : Int × Int × Int × Int × Int × Int × Int := (e.key.at_, e.key.src, e.key.sent, e.key.no, e.dst, e.kind, e.data)
def evLt (a b : Event) : Prop :=
  a.key.at_ < b.key.at_ ∨ (a.key.at_ = b.key.at_ ∧ (a.key.src < b.key.src ∨ (a.key.src = b.key.src ∧ (a.key.sent < b.key.sent ∨ (a.key.sent = b.key.sent ∧ (a.key.no < b.key.no ∨ (a.key.no = b.key.no ∧
    (a.dst < b.dst ∨ (a.dst = b.dst ∧ (a.kind < b.kind ∨ (a.kind = b.kind ∧ a.data < b.data)))))))))))
instance (a b : Event) : Decidable (evLt a b) := by unfold evLt; infer_instance
theorem evLt_irrefl (a : Event) : ¬ evLt a a := by unfold evLt; omega
theorem evLt_trans {a b c : Event} (h : evLt a b) (k : evLt b c) : evLt a c := by unfold evLt at *; omega
theorem evLt_total {a b : Event} (h : ¬ evLt a b) (k : ¬ evLt b a) : a = b := by
  obtain ⟨⟨a1, a2, a3, a4⟩, a5, a6, a7⟩ := a; obtain ⟨⟨b1, b2, b3, b4⟩, b5, b6, b7⟩ := b
  unfold evLt at *
  simp only [Event.mk.injEq, Key.mk.injEq] at *
  omega
def insTot (x : Event) : List Event → List Event
  | [] => [x]
  | y :: l => if evLt x y then x :: y :: l else y :: insTot x l
def sortT (l : List Event) : List Event := l.foldl (fun s x => insTot x s) []
theorem insTot_perm (x : Event) : ∀ l, (insTot x l).Perm (x :: l)
  | [] => .refl _
  | y :: l => by
    unfold insTot
    split
    · exact .refl _
    · exact ((insTot_perm x l).cons y).trans (.swap x y l)
def UpT (l : List Event) : Prop := l.Pairwise fun a b => ¬ evLt b a
theorem insTot_up (x : Event) : ∀ l, UpT l → UpT (insTot x l)
  | [], _ => by simp [insTot, UpT]
  | y :: l, h => by
    have h' := List.pairwise_cons.1 h
    unfold insTot
    split
    · rename_i hxy
      refine List.pairwise_cons.2 ⟨fun z hz => ?_, h⟩
      rcases List.mem_cons.1 hz with rfl | hz
      · exact fun k => evLt_irrefl _ (evLt_trans hxy k)
      · intro k
        exact h'.1 z hz (evLt_trans k hxy)
    · rename_i hxy
      refine List.pairwise_cons.2 ⟨fun z hz => ?_, insTot_up x l h'.2⟩
      rcases List.mem_cons.1 ((insTot_perm x l).mem_iff.1 hz) with rfl | hz
      · exact hxy
      · exact h'.1 z hz
theorem foldT_perm : ∀ (l s : List Event), (l.foldl (fun s x => insTot x s) s).Perm (l ++ s)
  | [], _ => .refl _
  | x :: l, s => (foldT_perm l (insTot x s)).trans (((insTot_perm x s).append_left l).trans List.perm_middle)
theorem foldT_up : ∀ (l s : List Event), UpT s → UpT (l.foldl (fun s x => insTot x s) s)
  | [], _, h => h
  | x :: l, _, h => foldT_up l _ (insTot_up x _ h)
theorem sortT_perm (l : List Event) : (sortT l).Perm l := (foldT_perm l []).trans (by rw [List.append_nil])
theorem sortT_up (l : List Event) : UpT (sortT l) := foldT_up l [] List.Pairwise.nil
theorem upT_eq {l m : List Event} (hp : l.Perm m) (hl : UpT l) (hm : UpT m) : l = m :=
  hp.eq_of_pairwise (fun _ _ _ _ h k => (evLt_total k h)) hl hm
def onceFrom : Option Key → List Event → List Event
  | _, [] => []
  | k, x :: l => if k = some x.key then onceFrom k l else x :: onceFrom (some x.key) l
def once (l : List Event) : List Event := onceFrom none l
end Go.Proofs.YtmpfbkfemlhekaaGreatDoor
/- Plain: where an event stands in a sorted list, or would stand; put in, and taken out. No program in sight. -/
namespace Go.Proofs.YtmpfbkfemlhekaaGreatDoor
open Go

def plT (l : List Event) (e : Event) : Nat := (l.takeWhile fun x => decide (evLt x e)).length
theorem plT_le (l : List Event) (e : Event) : plT l e ≤ l.length := by
  unfold plT
  exact (List.takeWhile_prefix _).length_le
theorem plT_at : ∀ {l : List Event} {e : Event} {n : Nat}, n ≤ l.length → (∀ (k : Nat) x, k < n → l[k]? = some x → evLt x e) → (∀ (k : Nat) x, n ≤ k → l[k]? = some x → ¬ evLt x e) → n = plT l e
  | [], e, n, hn, _, _ => by simp at hn; simp [plT, hn]
  | a :: l, e, 0, _, _, h2 => by
    have := h2 0 a (Nat.le_refl _) rfl
    simp [plT, this]
  | a :: l, e, n + 1, hn, h1, h2 => by
    have ha := h1 0 a (by omega) rfl
    have := plT_at (l := l) (e := e) (n := n) (by simpa using hn) (fun k x hk hx => h1 (k + 1) x (by omega) (by simpa using hx)) (fun k x hk hx => h2 (k + 1) x (by omega) (by simpa using hx))
    simp only [plT, List.takeWhile_cons, ha, decide_true, if_true, List.length_cons] at *
    omega
theorem plT_lt : ∀ {l : List Event} {e : Event} {k : Nat} {x : Event}, k < plT l e → l[k]? = some x → evLt x e
  | [], _, k, x, _, hx => by simp at hx
  | a :: l, e, k, x, hk, hx => by
    by_cases ha : evLt a e
    · have e1 : plT (a :: l) e = plT l e + 1 := by simp [plT, ha]
      cases k with
      | zero => simp at hx; subst hx; exact ha
      | succ k => exact plT_lt (l := l) (k := k) (by omega) (by simpa using hx)
    · have e1 : plT (a :: l) e = 0 := by simp [plT, ha]
      omega
theorem plT_ge {l : List Event} {e : Event} (hl : UpT l) : ∀ {k : Nat} {x : Event}, plT l e ≤ k → l[k]? = some x → ¬ evLt x e := by
  induction l with
  | nil => intro k x _ hx; simp at hx
  | cons a l ih =>
    intro k x hk hx
    have h' := List.pairwise_cons.1 hl
    by_cases ha : evLt a e
    · have e1 : plT (a :: l) e = plT l e + 1 := by simp [plT, ha]
      cases k with
      | zero => omega
      | succ k => exact ih h'.2 (k := k) (by omega) (by simpa using hx)
    · cases k with
      | zero => simp at hx; subst hx; exact ha
      | succ k =>
        intro hxe
        have hx2 : x ∈ l := List.mem_of_getElem? (by simpa using hx)
        rcases Classical.em (evLt e a) with h | h
        · exact h'.1 x hx2 (evLt_trans hxe h)
        · have := evLt_total ha h; subst this; exact h'.1 x hx2 hxe
theorem plT_mem {l : List Event} {e : Event} (hl : UpT l) : e ∈ l ↔ l[plT l e]? = some e := by
  refine ⟨fun h => ?_, fun h => List.mem_of_getElem? h⟩
  obtain ⟨i, hi, hx⟩ := List.mem_iff_getElem.1 h
  have hx2 : l[i]? = some e := by rw [List.getElem?_eq_getElem hi, hx]
  have hge : plT l e ≤ i := by
    rcases Nat.lt_or_ge i (plT l e) with h | h
    · exact absurd (plT_lt h hx2) (evLt_irrefl e)
    · exact h
  have hlt : plT l e < l.length := by omega
  have hy : l[plT l e]? = some l[plT l e] := List.getElem?_eq_getElem hlt
  have h1 := plT_ge hl (Nat.le_refl _) hy
  have h2 : ¬ evLt e l[plT l e] := by
    rcases Nat.lt_or_eq_of_le hge with h | h
    · have := (List.pairwise_iff_getElem.1 hl) (plT l e) i hlt hi h
      rw [hx] at this; exact this
    · have e1 : l[plT l e] = e := Option.some.inj (hy.symm.trans (by rw [h]; exact hx2))
      rw [e1]; exact evLt_irrefl e
  rw [hy, evLt_total h1 h2]
theorem ins_plT {l : List Event} (e : Event) (hl : UpT l) : l.take (plT l e) ++ e :: l.drop (plT l e) = insTot e l := by
  refine upT_eq ?_ ?_ (insTot_up e l hl)
  · refine List.perm_middle.trans ?_
    rw [List.take_append_drop]
    exact (insTot_perm e l).symm
  · refine List.pairwise_append.2 ⟨hl.sublist (List.take_sublist _ _), List.pairwise_cons.2 ⟨fun y hy => ?_, hl.sublist (List.drop_sublist _ _)⟩, fun x hx y hy => ?_⟩
    · obtain ⟨i, hi, e1⟩ := List.mem_iff_getElem.1 hy
      exact plT_ge (e := e) hl (k := plT l e + i) (by omega) (by rw [← List.getElem?_drop, List.getElem?_eq_getElem hi, e1])
    · obtain ⟨i, hi, e1⟩ := List.mem_iff_getElem.1 hx
      rw [List.length_take] at hi
      have hxe : evLt x e := plT_lt (l := l) (k := i) (by omega) (by rw [← e1, List.getElem_take, List.getElem?_eq_getElem (by omega)])
      rcases List.mem_cons.1 hy with rfl | hy
      · exact fun h => evLt_irrefl _ (evLt_trans h hxe)
      · obtain ⟨j, hj, e2⟩ := List.mem_iff_getElem.1 hy
        have hye : ¬ evLt y e := plT_ge hl (k := plT l e + j) (x := y) (by omega) (by rw [← List.getElem?_drop, List.getElem?_eq_getElem hj, e2])
        exact fun h => hye (evLt_trans h hxe)
end Go.Proofs.YtmpfbkfemlhekaaGreatDoor
/- The walks of cmp.Compare and cmp.Or at ints (beside C2). -/
namespace Go.Proofs.YtmpfbkfemlhekaaGreatDoor
open Go Go.RowKit Reg Mem

set_option maxRecDepth 100000 in
theorem elem_Int : Elem Tryz.prog 37 3 1 8 := ⟨_, .int .i64 0, Tryz.underlying37, rfl, by kernel_rfl, by kernel_rfl, by kernel_rfl, by kernel_rfl, by omega⟩
set_option maxRecDepth 100000 in
theorem zero_Int : zeroIs Tryz.prog 3 1 (intE 0) := ⟨_, .int .i64 0, rfl, by kernel_rfl, by kernel_rfl, rfl, by decide⟩
theorem isNaN_calls (x : Int) (w : World) : Calls Tryz.prog 202 #[.int .i64 x] w fun r w' => r = .returned (.bool false) ∧ Below w.heap.size w w' := by
  have S := St.init (fun _ => False) w
  go_enter Tryz.func202, Tryz.ntmps202
  go_wp2_with first | ((with_reducible refine tot_done ?ht ?_); (case ht => kernel_rfl))
  go_ret
  exact ⟨by simp, S.below⟩
def icmp (x y : Int) : Int := if x < y then -1 else if y < x then 1 else 0
theorem cmpInt_calls (x y : Int) (w : World) : Calls Tryz.prog 152 #[.int .i64 x, .int .i64 y] w fun r w' => r = .returned (.int .i64 (icmp x y)) ∧ Below w.heap.size w w' := by
  have S := St.init (fun _ => False) w
  by_cases h1 : x < y
  · go_enter Tryz.func152, Tryz.ntmps152
    go_wp2_with first | (go_at_call 202; refine Calls.mono (isNaN_calls _ _) ?_; rintro e wz ⟨rfl, hE⟩; replace S := S.ext (Keep.of_below hE); clear hE) | ((with_reducible refine tot_done ?ht ?_); (case ht => kernel_rfl))
    go_ret
    exact ⟨ret_int (by unfold icmp; rw [if_pos (by omega)]), S.below⟩
  · by_cases h2 : y < x
    · go_enter Tryz.func152, Tryz.ntmps152
      go_wp2_with first | (go_at_call 202; refine Calls.mono (isNaN_calls _ _) ?_; rintro e wz ⟨rfl, hE⟩; replace S := S.ext (Keep.of_below hE); clear hE) | ((with_reducible refine tot_done ?ht ?_); (case ht => kernel_rfl))
      go_ret
      exact ⟨ret_int (by unfold icmp; rw [if_neg (by omega), if_pos (by omega)]), S.below⟩
    · go_enter Tryz.func152, Tryz.ntmps152
      go_wp2_with first | (go_at_call 202; refine Calls.mono (isNaN_calls _ _) ?_; rintro e wz ⟨rfl, hE⟩; replace S := S.ext (Keep.of_below hE); clear hE) | ((with_reducible refine tot_done ?ht ?_); (case ht => kernel_rfl))
      go_ret
      exact ⟨ret_int (by unfold icmp; rw [if_neg (by omega), if_neg (by omega)]), S.below⟩
def orL : List Int → Int
  | [] => 0
  | x :: l => if x ≠ 0 then x else orL l
theorem orL_at {l : List Int} {j : Nat} {x : Int} (h : ∀ (q : Nat) y, q < j → l[q]? = some y → y = 0) (hj : l[j]? = some x) (hx : x ≠ 0) : orL l = x := by
  induction l generalizing j with
  | nil => simp at hj
  | cons a l ih =>
    cases j with
    | zero => simp at hj; subst hj; simp [orL, hx]
    | succ j =>
      have ha := h 0 a (by omega) rfl
      rw [orL, if_neg (by simp [ha])]
      exact ih (j := j) (fun q y hq hy => h (q + 1) y (by omega) (by simpa using hy)) (by simpa using hj)
theorem orL_zero {l : List Int} (h : ∀ (q : Nat) y, l[q]? = some y → y = 0) : orL l = 0 := by
  induction l with
  | nil => rfl
  | cons a l ih =>
    have ha := h 0 a rfl
    rw [orL, if_neg (by simp [ha])]
    exact ih (fun q y hy => h (q + 1) y (by simpa using hy))
def OrRel (ad : Option Addr) (c : Nat) (l : List Int) (w : World) (i : Value) (wr : World) : Prop :=
  ∃ j : Nat, j ≤ l.length ∧ i = .int .i64 j ∧ (∀ (q : Nat) y, q < j → l[q]? = some y → y = 0) ∧ St (fun _ => False) w wr [Sl true intE 1 (.slice ad l.length c) l]
theorem orInt_calls (v : Value) (l : List Int) (w : World) (F : Nat → Prop) (h : (Sl true intE 1 v l).at_ w F) (hn : l.length ≤ 4294967296) : Calls Tryz.prog 151 #[v] w fun r w' => r = .returned (.int .i64 (orL l)) ∧ Below w.heap.size w w' := by
  have S : St (fun _ => False) w w [Sl true intE 1 v l] := (St.init _ w).share rfl rfl h
  obtain ⟨F1, hs⟩ := S.sl 0 rfl
  obtain ⟨ad, cp, rfl, _⟩ := hs.form
  clear hs
  go_enter Tryz.func151, Tryz.ntmps151
  go_wp2_with first | ((with_reducible refine tot_done ?ht ?_); (case ht => kernel_rfl)) | ((with_reducible apply wps_load S 0); (case hx | hi | hu => rfl); (case hT => decide +kernel)) | ((with_reducible apply wps_load S 1); (case hx | hi | hu => rfl); (case hT => decide +kernel)) | ((with_reducible apply wps_load S 2); (case hx | hi | hu => rfl); (case hT => decide +kernel)) | ((with_reducible apply wps_load S 3); (case hx | hi | hu => rfl); (case hT => decide +kernel))
  go_loopw [8] (fun i wr => OrRel ad cp l w i wr) (fun i _ => l.length - (intOf i).toNat)
  case atStart => exact ⟨0, Nat.zero_le _, rfl, fun q r h => by omega, S⟩
  case round =>
    clear S
    obtain ⟨j, hj, rfl, hz, S⟩ := hrel
    have Hz := Lib.hid hz
    clear hz
    by_cases hlt : j < l.length
    · obtain ⟨x, hx⟩ : ∃ x, l[j]? = some x := ⟨_, List.getElem?_eq_getElem hlt⟩
      obtain ⟨R, o, rfl⟩ : ∃ R o, ad = some ⟨R, o, none⟩ := (S.sl 0 rfl).elim fun F h => h.head (Nat.zero_lt_of_lt hlt)
      have hlt2 : (j : Int) < l.length := by omega
      have Hx := Lib.hid hx
      clear hx
      by_cases h0 : x = 0
      · go_wp2_with first | ((with_reducible apply wps_load_el S 0 (hj := Hx.out) (q := 0) (u := .int .i64 x)); (case hx | hi => rfl); (case hn => omega); (case hu => rfl); (case hT => decide +kernel)) | ((with_reducible refine tot_done ?ht ?_); (case ht => kernel_rfl)) | ((with_reducible apply wps_load S 0); (case hx | hi | hu => rfl); (case hT => decide +kernel)) | ((with_reducible apply wps_load S 1); (case hx | hi | hu => rfl); (case hT => decide +kernel)) | ((with_reducible apply wps_load S 2); (case hx | hi | hu => rfl); (case hT => decide +kernel)) | ((with_reducible apply wps_load S 3); (case hx | hi | hu => rfl); (case hT => decide +kernel))
        go_roundw
        case rel =>
          refine ⟨j + 1, by omega, by go_num, fun q r hq hr => ?_, S⟩
          by_cases e : q = j
          · subst e; rw [Hx.out] at hr; cases hr; exact h0
          · exact Hz.out q r (by omega) hr
        case measure => simp [intOf]; omega
      · go_wp2_with first | ((with_reducible apply wps_load_el S 0 (hj := Hx.out) (q := 0) (u := .int .i64 x)); (case hx | hi => rfl); (case hn => omega); (case hu => rfl); (case hT => decide +kernel)) | ((with_reducible refine tot_done ?ht ?_); (case ht => kernel_rfl)) | ((with_reducible apply wps_load S 0); (case hx | hi | hu => rfl); (case hT => decide +kernel)) | ((with_reducible apply wps_load S 1); (case hx | hi | hu => rfl); (case hT => decide +kernel)) | ((with_reducible apply wps_load S 2); (case hx | hi | hu => rfl); (case hT => decide +kernel)) | ((with_reducible apply wps_load S 3); (case hx | hi | hu => rfl); (case hT => decide +kernel))
        go_ret
        exact ⟨ret_int (orL_at Hz.out Hx.out h0).symm, S.below⟩
    · obtain rfl : j = l.length := by omega
      go_wp2_with first | ((with_reducible refine tot_done ?ht ?_); (case ht => kernel_rfl)) | ((with_reducible apply wps_load S 0); (case hx | hi | hu => rfl); (case hT => decide +kernel)) | ((with_reducible apply wps_load S 1); (case hx | hi | hu => rfl); (case hT => decide +kernel)) | ((with_reducible apply wps_load S 2); (case hx | hi | hu => rfl); (case hT => decide +kernel)) | ((with_reducible apply wps_load S 3); (case hx | hi | hu => rfl); (case hT => decide +kernel))
      go_ret
      exact ⟨ret_int (orL_zero fun q y hy => Hz.out q y (List.getElem?_eq_some_iff.1 hy).1 hy).symm, S.below⟩
end Go.Proofs.YtmpfbkfemlhekaaGreatDoor
/- The order of keys, plain. -/
namespace Go.Proofs.YtmpfbkfemlhekaaGreatDoor
open Go.Sort

theorem Key.lt_iff (k l : Key) : k.lt l = true ↔ k.at_ < l.at_ ∨ (k.at_ = l.at_ ∧ (k.src < l.src ∨ (k.src = l.src ∧ (k.sent < l.sent ∨ (k.sent = l.sent ∧ k.no < l.no))))) := by
  unfold Key.lt
  split
  · simp; omega
  · split
    · simp; omega
    · split
      · simp; omega
      · simp; omega
end Go.Proofs.YtmpfbkfemlhekaaGreatDoor
/- The library's slices.SortFunc on a slice that is owned, as a step of the state. Over any program. -/
namespace Go.Proofs.YtmpfbkfemlhekaaGreatDoor.Mem
open Go Go.RowKit Reg Go.Shelf Go.Sort

def Grew (w w' : World) : Prop := ∃ q os, w' = grow (w.drewN q) os
theorem heap_grow (w : World) (os : Array Obj) {b : Nat} (hb : b < w.heap.size) : (grow w os).heap[b]? = w.heap[b]? := by
  show (w.heap ++ os)[b]? = _
  rw [Array.getElem?_append_left hb]
section
variable {α : Type} [Inhabited α]
theorem putCells_take {enc : α → Value} {d : Array α} {c : Array Value} (h : d.size ≤ c.size) : (putCells enc 0 d c).toList.take d.size = d.toList.map enc := by
  apply List.ext_getElem?
  intro i
  by_cases hi : i < d.size
  · rw [List.getElem?_take_of_lt hi, Array.getElem?_toList, List.getElem?_map, Array.getElem?_toList, Array.getElem?_eq_getElem hi]
    simp only [putCells, Array.getElem?_mapIdx, Array.getElem?_eq_getElem (show i < c.size by omega), Option.map_some, Nat.zero_le, Nat.zero_add, true_and, if_pos hi, Nat.sub_zero, getElem!_pos d i hi]
  · rw [List.getElem?_eq_none (by simp; omega), List.getElem?_eq_none (by simp; omega)]
theorem size_putCells {enc : α → Value} {d : Array α} {c : Array Value} {o : Nat} : (putCells enc o d c).size = c.size := by simp [putCells]
theorem heap_putRow {enc : α → Value} {w : World} {R m o : Nat} {d : Array α} {cur : Array Value} {E : TypeId} {fr : Nat × Nat} (os : Array Obj) (hR : w.heap[R]? = some (.cells cur E fr)) :
    (grow (putRow enc (Sort.ahead w m) R o d) os).heap[R]? = some (.cells (putCells enc o d cur) E fr) := by
  have hl := (Array.getElem?_eq_some_iff.1 hR).1
  rw [heap_grow _ _ (by rw [size_putRow]; exact hl)]
  show (w.heap.modify R (onCells (putCells enc o d)))[R]? = _
  rw [Array.getElem?_modify, if_pos rfl, hR]; rfl
theorem keep_putRow {enc : α → Value} {w : World} {R m o : Nat} {d : Array α} (os : Array Obj) : Keep (fun b => b = R) w (grow (putRow enc (Sort.ahead w m) R o d) os) := by
  refine ⟨rfl, rfl, rfl, ?_, fun b hb hn => ?_, Nat.le_add_right _ _⟩
  · show w.heap.size ≤ ((w.heap.modify R _) ++ os).size
    simp
  · rw [heap_grow _ _ (by rw [size_putRow]; exact hb)]
    show (w.heap.modify R _)[b]? = _
    rw [Array.getElem?_modify, if_neg (fun e => hn e.symm)]
end

section
variable {P : Program} {ρ : Ren} {α : Type} [Inhabited α] {E : TypeId} {enc : α → List Value} {k : Nat} {G : Nat → Prop} {w0 w : World} {L : List Asn} {i : Nat}
end
end Go.Proofs.YtmpfbkfemlhekaaGreatDoor.Mem

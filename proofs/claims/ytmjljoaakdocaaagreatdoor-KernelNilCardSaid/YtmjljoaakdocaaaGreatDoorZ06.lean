import Derived.Test.YtmjljoaakdocaaaGreatDoorTie
import Derived.Test.YtmjljoaakdocaaaGreatDoorCards
import Derived.Test.YtmjljoaakdocaaaGreatDoorZ01
import Derived.Test.YtmjljoaakdocaaaGreatDoorZ04
import Derived.Test.YtmjljoaakdocaaaGreatDoorZ05
import Derived.Lay
import Derived.MakeChecks
import Derived.LaidMore
import Derived.Stop.Joined
import Derived.SevenTiedAt
import Derived.Lib.AppendZerosOnto
import Derived.Lib.Overlaps
import Derived.Laws.Externs
/- The table of ops, as the row's condition has it; and that the program's own door meets the condition. -/
namespace Go.Proofs.YtmjljoaakdocaaaGreatDoor
open Go Go.ChangeShapes Go.WideShapes Go.ChangeAt Go.RowKit Mem

def tabLaid : List (String × DataW Unit) := [("boomerang/code.table", Rows.laid_boomerang_code_table)]
noncomputable def witT (os : Os) : World := World.laidAll Tryz.prog os tabLaid
set_option maxRecDepth 100000 in
theorem metT (os : Os) (args : Array Value) : laidMetH Tryz.prog tabLaid ((witT os).forCall (fun _ _ => 0) ⟨#[], args, []⟩).memory := by
  rw [MakeChecks.laidMetH_plain _ _ _ (by kernel_rfl)]
  exact laidMet_laidAll args (by kernel_rfl) (by kernel_rfl)
set_option maxRecDepth 100000 in
theorem shapeT (os : Os) (args : Array Value) : ((witT os).forCall (fun _ _ => 0) ⟨#[], args, []⟩).Shaped Tryz.prog := World.shaped_of_ZipB (by kernel_rfl) (by kernel_rfl)
theorem gTable : Tryz.prog.globalNamed "boomerang/code.table" = some 1 := by kernel_rfl
theorem tTable : (Tryz.prog.globals[1]?).map (·.type) = some 355 := by kernel_rfl
theorem lay_some {P : Program} {t : TypeId} (h : (lay P 100 t).isSome = true) (h2 : P.cellsOf t = ((lay P 100 t).getD []).length) : ∃ ks, lay P 100 t = some ks ∧ P.cellsOf t = ks.length := by
  obtain ⟨ks, hk⟩ := Option.isSome_iff_exists.1 h
  exact ⟨ks, hk, by rw [h2, hk]; rfl⟩
set_option maxRecDepth 100000 in
theorem tab_of_laid {W : World} (h : laidMetH Tryz.prog tabLaid W) : Tab.at_ W (fun b => b = 1) := by
  rw [MakeChecks.laidMetH_plain _ _ _ (by kernel_rfl)] at h
  obtain ⟨ps, ⟨g0, t0, cs0, f0, p0, q0, hg0, ht0, hv0, hd0, _⟩, _⟩ := h
  obtain rfl := Option.some.inj (gTable.symm.trans hg0)
  obtain rfl := Option.some.inj (tTable.symm.trans ht0)
  obtain ⟨ks, hk, hc⟩ := lay_some (P := Tryz.prog) (t := 355) (by kernel_rfl) (by kernel_rfl)
  have e := trod_cells 100 355 ks hk hc _ _ _ hd0
  have e2 : cellsD 100 (Rows.laid_boomerang_code_table : DataW Unit) = flatE About.cells table := by kernel_rfl
  have e3 : cs0.toList = flatE About.cells table := e.trans e2
  have hcell : ∀ i, W.cell? ⟨1, i, none⟩ = (flatE About.cells table)[i]? := fun i => by
    rw [World.var?_cell gTable hv0 i, ← e3, Array.getElem?_toList]
  have acells : ∀ x : About, x.cells.length = 6 := fun _ => rfl
  refine ⟨⟨some ⟨1, 0, none⟩, 16, rfl, by rw [table_len]; exact Nat.le_refl _, (fun h => by cases h), fun i x hi => ⟨1, 0, rfl, rfl, fun j u hj => ?_⟩⟩, fun b hb => ?_⟩
  · have hj6 : j < 6 := by rw [← acells x]; exact (List.getElem?_eq_some_iff.1 hj).1
    rw [hcell, Nat.zero_add, flatE_get acells hi j hj6]
    exact hj
  · subst hb
    have h0 := hcell 0
    cases hz : W.heap[1]? with
    | none => exfalso; simp only [World.cell?, hz] at h0; exact absurd h0 (by rw [flatE_get acells (i := 0) (x := table[0]) rfl 0 (by decide)]; simp [About.cells])
    | some o => exact (Array.getElem?_eq_some_iff.1 hz).1
end Go.Proofs.YtmjljoaakdocaaaGreatDoor
/- Two things that are owned, as one; a new model out of its parts. -/
namespace Go.Proofs.YtmjljoaakdocaaaGreatDoor
open Go Go.RowKit Mem

theorem loc_of {A : Asn} {w w' : World} {F F1 : Nat → Prop} (h : A.at_ w F1) (hF : ∀ b, F1 b → F b) (hb : ∀ b, F b → w'.heap[b]? = w.heap[b]?) : A.at_ w' F1 := A.loc h fun b h => hb b (hF b h)
def Both (A B : Asn) : Asn where
  sh := false
  at_ w F := ∃ F1 F2, A.at_ w F1 ∧ B.at_ w F2 ∧ ∀ b, F b ↔ F1 b ∨ F2 b
  loc h hb := let ⟨F1, F2, h1, h2, h3⟩ := h; ⟨F1, F2, loc_of h1 (fun b h => (h3 b).2 (.inl h)) hb, loc_of h2 (fun b h => (h3 b).2 (.inr h)) hb, h3⟩
  lt h b hb := let ⟨_, _, h1, h2, h3⟩ := h; ((h3 b).1 hb).elim (A.lt h1 b) (B.lt h2 b)
section
variable {G : Nat → Prop} {w0 w : World} {L : List Asn} {A B : Asn}
theorem Mem.St.both (S : St G w0 w (A :: B :: L)) (hA : A.sh = false) (hB : B.sh = false) : St G w0 w (Both A B :: L) :=
  S.merge _ hA hB rfl fun F F' h h' => ⟨F, F', h, h', fun _ => Iff.rfl⟩
theorem Mem.St.modNew {T : TypeId} {R : Nat} {vP vL vS : Value} {hs : List Value} {ps : List (List Instr)} {ls : List Place} {ss : List Start} {fin fuel fan : Int}
    (S : St G w0 w (Blk false R #[vP, vL, vS, .int .i64 fin, .int .i64 fuel, .int .i64 fan] T :: Sl false vcell 1 vP hs :: Sl false Place.cells 5 vL ls :: Sl false Start.cells 4 vS ss :: Sls false Instr.cells 5 hs ps :: L)) :
    St G w0 w (ModA false T R [vP, vL, vS, .int .i64 fin, .int .i64 fuel, .int .i64 fan] hs ⟨ps, ls, ss, fin, fuel, fan⟩ :: L) := by
  have S1 := (((S.both rfl rfl).both rfl rfl).both rfl rfl).both rfl rfl
  have := S1.weak (i := 0) (A' := ModA false T R [vP, vL, vS, .int .i64 fin, .int .i64 fuel, .int .i64 fan] hs ⟨ps, ls, ss, fin, fuel, fan⟩) rfl (fun _ => rfl) fun F h => ?_
  · simpa using this
  · obtain ⟨F1, F2, ⟨F3, F4, ⟨F5, F6, ⟨F7, F8, h1, h2, e4⟩, h3, e3⟩, h4, e2⟩, h5, e1⟩ := h
    have i1 : ∀ b, F7 b → F b := fun b h => (e1 b).2 (.inl ((e2 b).2 (.inl ((e3 b).2 (.inl ((e4 b).2 (.inl h)))))))
    have i2 : ∀ b, F8 b → F b := fun b h => (e1 b).2 (.inl ((e2 b).2 (.inl ((e3 b).2 (.inl ((e4 b).2 (.inr h)))))))
    have i3 : ∀ b, F6 b → F b := fun b h => (e1 b).2 (.inl ((e2 b).2 (.inl ((e3 b).2 (.inr h)))))
    have i4 : ∀ b, F4 b → F b := fun b h => (e1 b).2 (.inl ((e2 b).2 (.inr h)))
    have i5 : ∀ b, F2 b → F b := fun b h => (e1 b).2 (.inr h)
    refine ⟨F, fun _ h => h, ⟨⟨h1.1, i1 R ((h1.2 R).2 rfl), ⟨⟨vP, vL, vS, rfl, h2.1.mono i2, h3.1.mono i3, h4.1.mono i4⟩, h5.1.mono i5⟩⟩, fun b hb => ?_⟩⟩
    rcases (e1 b).1 hb with h | h
    · rcases (e2 b).1 h with h | h
      · rcases (e3 b).1 h with h | h
        · rcases (e4 b).1 h with h | h
          · exact (Blk false R _ T).lt h1 b h
          · exact h2.2 b h
        · exact h3.2 b h
      · exact h4.2 b h
    · exact h5.2 b h
end
theorem firstE_mem (l : List Int) : firstE l = 0 ∨ firstE l ∈ l := by
  induction l with
  | nil => simp [firstE]
  | cons x l ih => by_cases h : x = 0 <;> simp [firstE, h]; exact ih.elim .inl fun h => .inr h
theorem hset {l m : List Value} {x y : Value} {k : Nat} (h : k = l.length) : (l ++ x :: m).set k y = (l ++ [y]) ++ m := by subst h; simp
end Go.Proofs.YtmjljoaakdocaaaGreatDoor
/- Opening a configuration that came in. -/
namespace Go.Proofs.YtmjljoaakdocaaaGreatDoor
open Go Go.ChangeShapes Go.WideShapes Go.ChangeAt Go.RowKit Mem

abbrev i5 : List TypeDesc := [.int .i64, .int .i64, .int .i64, .int .i64, .int .i64]
section
variable {H : Type} {enc : TypeId × Value → H} {w : World} {base : Nat} {spare : Nat → Bool} {held : Bool}
structure Wide (c : Cfg) : Prop where
  p : c.programs.length ≤ maxLen
  q : ∀ x ∈ c.programs, x.length ≤ maxLen
  l : c.lps.length ≤ maxLen
  s : c.starts.length ≤ maxLen
end
end Go.Proofs.YtmjljoaakdocaaaGreatDoor
/- A region that draws its order, beside things that its hard operations turn. Over any program. -/
namespace Go.Proofs.YtmjljoaakdocaaaGreatDoor.Mem
open Go Go.RowKit Reg
section
variable {P : Program} {ops : Array Oper} {Q : Exit → Act → World → Prop} {G : Nat → Prop} {w0 : World} {L : List Asn}
theorem wp_region_wt {id : Nat} {soft : List Nat} {a : Act} {w : World} {T : List Asn} (S : St G w0 w (L ++ T)) (hm : P.follows .mixedOrders = true) (hB : softB ops soft = true)
    (h : Softs P ops Q G w0 L (fun A => W P ops Q G w0 L (ops.size - soft.length) T (after soft (Array.replicate ops.size false)) A) soft a) : (Code.region id ops true).wp P Q a w := by
  simp only [softB, Bool.and_eq_true] at hB
  have hc : Closed .any ops (Array.replicate ops.size false) := fun j oj _ hl => by
    rw [Array.getD_eq_getD_getElem?] at hl
    by_cases hj : j < ops.size
    · rw [Array.getElem?_replicate, if_pos hj] at hl; cases hl
    · rw [Array.getElem?_replicate, if_neg hj] at hl; cases hl
  have hle := Nat.le_of_ble_eq_true hB.2
  have := W_softs hB.1.1 soft (ops.size - soft.length) T _ a hc hB.1.2 h
  rw [show ops.size - soft.length + soft.length = ops.size by omega] at this
  exact wp_region_any hm (W_any _ T _ a _ this (S.ext (keep_drew w)))
end
end Go.Proofs.YtmjljoaakdocaaaGreatDoor.Mem
/- Operations of one value in the midst of a region that draws its order. Over any program. -/
namespace Go.Proofs.YtmjljoaakdocaaaGreatDoor.Mem
open Go Go.RowKit Reg
section
variable {P : Program} {ops : Array Oper} {Q : Exit → Act → World → Prop} {G : Nat → Prop} {w0 : World} {L : List Asn}
def closedB (ops : Array Oper) (listed : Array Bool) : Bool :=
  (List.range ops.size).all fun j => !listed.getD j false || ((ops[j]?).map (·.after.all fun e => !Region.binds .any e || listed.getD e.on false)).getD true
theorem closed_of {listed : Array Bool} (h : closedB ops listed = true) : Closed .any ops listed := fun j oj hj hl e he hb => by
  have h1 := List.all_eq_true.1 h j (List.mem_range.2 (Array.getElem?_eq_some_iff.1 hj).1)
  rw [hj] at h1
  simp only [hl, Option.map_some, Option.getD_some, Bool.not_true, Bool.false_or, Array.all_eq_true'] at h1
  have := h1 e he
  rw [hb] at this
  simpa using this
theorem W_mid {n f : Nat} {soft : List Nat} {T : List Asn} {listed : Array Bool} {a : Act} (hn : n = f + soft.length) (hB : (ordB ops && closedB ops listed && readyAll ops soft listed) = true)
    (h : Softs P ops Q G w0 L (fun A => W P ops Q G w0 L f T (after soft listed) A) soft a) : W P ops Q G w0 L n T listed a := by
  simp only [Bool.and_eq_true] at hB
  rw [hn]
  exact W_softs hB.1.1 soft f T listed a (closed_of hB.1.2) hB.2 h
end
end Go.Proofs.YtmjljoaakdocaaaGreatDoor.Mem
/- Several results, of which some lie in cells. Over any program. -/
namespace Go.Proofs.YtmjljoaakdocaaaGreatDoor.Mem
open Go Go.RowKit Reg

def ResV (P : Program) (w : World) (tmps : Array Value) : ResultVar → Value → Prop
  | .tmp t, v => tmps.getD t undef = v
  | .cell q t, v => ∃ b, tmps.getD q undef = .pointer (some ⟨b, 0, none⟩) ∧ (loadVar t ⟨b, 0, none⟩).run P w = .ok v w
section
variable {P : Program} {fn : Func} {tmps : Array Value} {G : Nat → Prop} {w0 w : World} {L : List Asn} {r1 r2 r3 : ResultVar} {v1 v2 v3 : Value}
theorem results2 (h : fn.results = #[r1, r2]) (h1 : ResV P w tmps r1 v1) (h2 : ResV P w tmps r2 v2) : (results fn tmps).run P w = .ok (.tuple #[v1, v2]) w := by
  cases r1 <;> cases r2 <;> simp only [ResV, Array.getD_eq_getD_getElem?] at h1 h2
  · simp [results, h, h1, h2]
  · obtain ⟨b2, p2, l2⟩ := h2; simp [results, h, h1, p2, asAddr, l2]
  · obtain ⟨b1, p1, l1⟩ := h1; simp [results, h, h2, p1, asAddr, l1]
  · obtain ⟨b1, p1, l1⟩ := h1; obtain ⟨b2, p2, l2⟩ := h2; simp [results, h, p1, p2, asAddr, l1, l2]
theorem St.resA {sh : Bool} {b : Nat} {cs : Array Value} {t ty : TypeId} {q : Tmp} (S : St G w0 w L) (i : Nat) (hi : L[i]? = some (Blk sh b cs t)) (hp : tmps.getD q undef = .pointer (some ⟨b, 0, none⟩)) (hA : aggB P ty cs.size = true) : ResV P w tmps (.cell q ty) (.agg cs) := by
  refine ⟨b, hp, ?_⟩
  have hl := run_loadVar_agg (P := P) (t := ty) (b := b) (o := 0) (w := w) (vs := cs.toList) (by simpa using hA) (fun j u hj => by rw [Nat.zero_add, cell_of (S.blk i hi)]; simpa using hj)
  simpa using hl
theorem St.res1 {sh : Bool} {b : Nat} {v : Value} {t ty : TypeId} {q : Tmp} (S : St G w0 w L) (i : Nat) (hi : L[i]? = some (Blk sh b #[v] t)) (hp : tmps.getD q undef = .pointer (some ⟨b, 0, none⟩)) (hT : leafB P ty = true) : ResV P w tmps (.cell q ty) v :=
  ⟨b, hp, run_load_leaf hT (by rw [cell_of (S.blk i hi)]; rfl)⟩
theorem res_tmp {t : Tmp} {v : Value} (h : tmps.getD t undef = v) : ResV P w tmps (.tmp t) v := h
end
end Go.Proofs.YtmjljoaakdocaaaGreatDoor.Mem
/- A slice that is owned is cut; its last element cleared. Over any program. -/
namespace Go.Proofs.YtmjljoaakdocaaaGreatDoor.Mem
open Go Go.RowKit Reg
section
variable {P : Program} {ops : Array Oper} {rest : List Oper} {a : Act} {Q : Exit → Act → World → Prop} {d : Option Tmp} {tt : TypeId} {p : String} {af : Array Edge} {gd : Option (Nat × Bool)} {x y : Operand}
variable {G : Nat → Prop} {w0 w w' : World} {L : List Asn}
end
end Go.Proofs.YtmjljoaakdocaaaGreatDoor.Mem
/- The tail of a slice that is owned is cleared. Over any program. -/
namespace Go.Proofs.YtmjljoaakdocaaaGreatDoor.Mem
open Go Go.RowKit Reg
section
variable {P : Program} {ops : Array Oper} {rest : List Oper} {a : Act} {Q : Exit → Act → World → Prop} {d : Option Tmp} {tt : TypeId} {p : String} {af : Array Edge} {gd : Option (Nat × Bool)} {x y : Operand}
variable {G : Nat → Prop} {w0 w w' : World} {L : List Asn}
theorem zeroCells_rep {α : Type} {enc : α → List Value} {k : Nat} {z : Value} {x0 : α} (hk : ∀ x, (enc x).length = k) (hz : z.cells.toList = enc x0) (n : Nat) : (Builtin.zeroCells z.cells n).toList = flatE enc (List.replicate n x0) := by
  have hs : z.cells.size = k := by rw [← hk x0, ← hz]; simp
  have := made_rep (z := z) hk hz n
  rw [← this]
  unfold Builtin.zeroCells madeCells
  rw [hs]
theorem wps_clearTail {α : Type} {T E : TypeId} {enc : α → List Value} {k bytes R n c c' m q : Nat} {xs : List α} (el : Elem P T E k bytes) (hk : ∀ x, (enc x).length = k) (hone : ∀ x, ∀ u ∈ enc x, u.oneCell' = true) (z0 : α) (hz : zeroIs P E k (enc z0)) (S : St G w0 w L) (i : Nat)
    (hi : L[i]? = some (Own E enc k (.slice (some ⟨R, 0, none⟩) n c) xs)) (o : Nat) (hx : a.eval x = .slice (some ⟨R, o, none⟩) q c') (ho : o = m * k) (hm : xs.length = m + q) (h0 : 0 < q)
    (next : ∀ w', St G w0 w' (L.set i (Own E enc k (.slice (some ⟨R, 0, none⟩) n c) (xs.take m ++ List.replicate q z0))) → wpList P ops Q rest (a.put d (.tuple #[])) w') (hgd : gOk gd ops a = true := by with_unfolding_all rfl) :
    wpList P ops Q ({ dst := d, op := .call { callee := .builtin .clear, args := #[x], argTypes := #[T] }, type := tt, pos := p, after := af, guard := gd } :: rest) a w :=
  wpList_ok hgd fun K hK => by
    obtain ⟨q, rfl⟩ : ∃ q', q = q' + 1 := ⟨q - 1, by omega⟩
    obtain ⟨F, hF⟩ := S.get hi
    obtain ⟨cur, hO, hn⟩ := own_at hF
    obtain ⟨ei, z, h⟩ := el
    obtain ⟨i', z', g1, g2, g3, g4, g5⟩ := hz
    have e1 : ei = i' := by have := h.info; rw [g1] at this; exact (Option.some.inj this).symm
    subst e1
    have e2 : z = z' := by have := h.zero; rw [g2] at this; exact (Option.some.inj this).symm
    subst e2
    have hzl : (Builtin.zeroCells z.cells (q + 1)).toList = flatE enc (List.replicate (q + 1) z0) := zeroCells_rep hk g4 _
    have hfl : (flatE enc (List.replicate (q + 1) z0)).length = (q + 1) * k := by rw [flatE_length hk, List.length_replicate]
    have hsize : m * k + (q + 1) * k ≤ cur.size := by
      have h3 := hO.le
      rw [hO.size, ← Nat.add_mul, ← hm]
      exact Nat.mul_le_mul_right k h3
    have h1 : ∀ v ∈ flatE enc (List.replicate (q + 1) z0), v.oneCell' = true := fun v hv => by
      obtain ⟨y, _, hy⟩ := List.mem_flatMap.1 hv
      exact hone y v hy
    obtain ⟨ht, hi2, hz2, hs, hby, hzs, hpos⟩ := h
    have hst := run_storeCells_at P R o E (flatE enc (List.replicate (q + 1) z0)) 0 cur w hO.heap (by rw [hfl, ho]; omega) h1
    simp only [Nat.add_zero] at hst
    have hr : (Builtin.clear_ #[T] tt #[.slice (some ⟨R, o, none⟩) (q + 1) c']).run P w = .ok (.tuple #[]) (w.setRow R (splice cur o (flatE enc (List.replicate (q + 1) z0)))) := by
      simp only [Builtin.clear_, List.getElem?_toArray, List.getElem?_cons_zero, Sem.run_bind, run_underlying ht, Result.andThen_ok, zeroValue, typeInfo, run_program, hi2, hz2, hzl, hst, Sem.run_pure]
      rfl
    unfold Oper.wp execOp
    simp [resolve, invoke, builtin, hx, hr, Result.andThen]
    refine hK _ _ (next _ (S.step hi rfl fun F hF => ?_))
    refine ⟨F, setRow_keep.mono (fun x _ h e => h ((hF.2 x).2 (by simp [Value.ownBlock, e]))), ⟨?_, fun x => by rw [hF.2 x]⟩, fun _ h => .inl h⟩
    have hl : (xs.take m ++ List.replicate (q + 1) z0).length = n := by rw [List.length_append, List.length_take, List.length_replicate, hn]; omega
    have hln : n = m + (q + 1) := by rw [hn]; exact hm
    have hnew : OwnAt E enc k 0 (w.setRow R (splice cur o (flatE enc (List.replicate (q + 1) z0)))) R c (splice cur o (flatE enc (List.replicate (q + 1) z0))) (xs.take m ++ List.replicate (q + 1) z0) := by
      refine ⟨setRow_heap w R _ _ E _ hO.heap, hO.lo, by rw [hl, hn]; exact hO.le, hO.max, by rw [splice_size (by rw [hfl, ho]; exact hsize)]; exact hO.size, ?_⟩
      have ht2 := (hO.cut hk m (by omega)).take
      rw [show (xs.take m).length = m by rw [List.length_take]; omega] at ht2
      unfold splice
      rw [hl, hln, flatE_append, ← ht2, ho]
      have hcl : (cur.toList.take (m * k)).length = m * k := by rw [List.length_take, Array.length_toList]; omega
      simp only [List.append_assoc]
      rw [← List.append_assoc]
      refine List.take_left' ?_
      rw [List.length_append, hcl, hfl, ← Nat.add_mul]
    have := hnew.own hk
    rwa [hl] at this
end
end Go.Proofs.YtmjljoaakdocaaaGreatDoor.Mem
/- The block of a slice that is owned, as it lies; copies of many cells; a slice made longer by things of zero; overlaps. Over any program. -/
namespace Go.Proofs.YtmjljoaakdocaaaGreatDoor.Mem
open Go Go.RowKit Reg
section
variable {G : Nat → Prop} {w0 w w' : World} {L : List Asn}
theorem St.raw {α : Type} {E : TypeId} {enc : α → List Value} {k R n c : Nat} {xs : List α} (S : St G w0 w L) (i : Nat) (hi : L[i]? = some (Own E enc k (.slice (some ⟨R, 0, none⟩) n c) xs)) :
    ∃ cur : Array Value, cur.size = c * k ∧ n = xs.length ∧ n ≤ c ∧ c ≤ maxLen ∧ cur.toList.take (n * k) = flatE enc xs ∧ St G w0 w (L.set i (Blk false R cur E)) := by
  obtain ⟨F0, hF0⟩ := S.get hi
  obtain ⟨cur, hO, hn⟩ := own_at hF0
  refine ⟨cur, hO.size, hn, by rw [hn]; exact hO.le, hO.max, by rw [hn]; exact hO.take, S.weak hi (fun _ => rfl) fun F hF => ⟨F, fun _ h => h, ?_, fun x => ?_⟩⟩
  · exact hO.heap
  · rw [hF.2 x]; simp [Value.ownBlock, eq_comm]
theorem own_hdE {α : Type} {E : TypeId} {enc : α → List Value} {k : Nat} {v : Value} {xs : List α} (i : Nat) (S : St G w0 w L) (hi : L[i]? = some (Own E enc k v xs)) (h0 : 0 < xs.length) : ∃ R c, v = .slice (some ⟨R, 0, none⟩) xs.length c := by
  obtain ⟨F1, h1, _⟩ := S.get hi
  obtain ⟨R, c, cur, e, _⟩ := h1.some (by omega)
  exact ⟨R, c, e⟩
theorem St.unraw {α : Type} {E : TypeId} {enc : α → List Value} {k R n c : Nat} {cur : Array Value} {xs : List α} (S : St G w0 w L) (hk : ∀ x, (enc x).length = k) (i : Nat) (hi : L[i]? = some (Blk false R cur E)) (hs : cur.size = c * k) (hn : n = xs.length) (hle : n ≤ c) (hm : c ≤ maxLen) (ht : cur.toList.take (n * k) = flatE enc xs) :
    St G w0 w (L.set i (Own E enc k (.slice (some ⟨R, 0, none⟩) n c) xs)) := by
  subst hn
  refine S.weak hi (fun _ => rfl) fun F hF => ⟨F, fun _ h => h, OwnAt.own hk ⟨hF.1, Nat.zero_le _, hle, hm, hs, ht⟩, fun x => ?_⟩
  rw [hF.2 x]; simp [Value.ownBlock, eq_comm]
end
section
variable {P : Program} {ops : Array Oper} {rest : List Oper} {a : Act} {Q : Exit → Act → World → Prop} {d : Option Tmp} {tt : TypeId} {p : String} {af : Array Edge} {gd : Option (Nat × Bool)} {x y : Operand}
variable {G : Nat → Prop} {w0 w w' : World} {L : List Asn}
theorem run_copyk {k b o dLen dCap b2 o2 sLen sCap : Nat} {cs cs2 : Array Value} {t t2 dT sT elem : TypeId} (us : List Value) (hb : w.heap[b]? = some (.cells cs t (0, 0))) (hb2 : w.heap[b2]? = some (.cells cs2 t2 (0, 0)))
    (hu : P.underlying dT = some (.slice elem)) (hE : ∀ w, (sizeOf elem).run P w = .ok k w) (hn : us.length = Nat.min sLen dLen * k) (hsrc : ∀ q v, us[q]? = some v → cs2[o2 + q]? = some v) (hfit : o + us.length ≤ cs.size) (h1 : ∀ v ∈ us, v.oneCell' = true) :
    (Builtin.copy_ #[dT, sT] tt #[.slice (some ⟨b, o, none⟩) dLen dCap, .slice (some ⟨b2, o2, none⟩) sLen sCap]).run P w = .ok (.int .i64 (Nat.min sLen dLen)) (w.setRow b (splice cs o us)) := by
  have hl := run_loadCells (P := P) b2 o2 w us 0 #[] (fun j v hj => by rw [Nat.add_zero, cell_of hb2]; exact hsrc j v hj)
  have hst := run_storeCells_at P b o t us 0 cs w hb (by simpa using hfit) h1
  simp only [Nat.add_zero] at hst
  have hl2 : (loadCells ⟨b2, o2, none⟩ (Nat.min sLen dLen * k)).run P w = .ok us.toArray w := by
    unfold loadCells; rw [← hn]; simpa using hl
  simp only [Builtin.copy_, List.getElem?_toArray, List.getElem?_cons_zero, List.getElem?_cons_succ, Sem.run_bind, run_underlying hu, Result.andThen_ok, Builtin.lenOf, Sem.run_pure, hE, Builtin.firstCells, hl2, hst, goInt]
  rfl
theorem wps_copyk {k b o dLen dCap b2 o2 sLen sCap : Nat} {cs cs2 : Array Value} {t t2 dT sT elem : TypeId} {sh : Bool} (S : St G w0 w L) (i : Nat) (hi : L[i]? = some (Blk false b cs t)) (j : Nat) (hj : L[j]? = some (Blk sh b2 cs2 t2)) (us : List Value) (nn : Nat)
    (hx : a.eval x = .slice (some ⟨b, o, none⟩) dLen dCap) (hy : a.eval y = .slice (some ⟨b2, o2, none⟩) sLen sCap) (hu : P.underlying dT = some (.slice elem)) (hE : ∀ w, (sizeOf elem).run P w = .ok k w)
    (hnn : nn = Nat.min sLen dLen) (hn : us.length = nn * k) (hsrc : ∀ q v, us[q]? = some v → cs2[o2 + q]? = some v) (hfit : o + us.length ≤ cs.size) (h1 : ∀ v ∈ us, v.oneCell' = true)
    (next : ∀ w', St G w0 w' (L.set i (Blk false b (splice cs o us) t)) → wpList P ops Q rest (a.put d (.int .i64 nn)) w') (hgd : gOk gd ops a = true := by with_unfolding_all rfl) :
    wpList P ops Q ({ dst := d, op := .call { callee := .builtin .copy, args := #[x, y], argTypes := #[dT, sT] }, type := tt, pos := p, after := af, guard := gd } :: rest) a w :=
  wpList_ok hgd fun K hK => by
    subst hnn
    have hr := run_copyk (P := P) (w := w) (tt := tt) (dT := dT) (sT := sT) (o := o) (dCap := dCap) (sCap := sCap) us (S.blk i hi) (S.blk j hj) hu hE hn hsrc hfit h1
    unfold Oper.wp execOp
    simp only [resolve, invoke, builtin, Sem.run_bind, Sem.run_pure, Result.andThen_ok, List.map_toArray, List.map_cons, List.map_nil, hx, hy, hr]
    exact hK _ _ (next _ (S.step hi rfl fun F hF => ⟨F, setRow_keep.mono (fun z _ hn e => hn ((hF.2 z).2 e)), ⟨setRow_heap w b cs _ t _ (S.blk i hi), hF.2⟩, fun _ h => .inl h⟩))
theorem wps_appendz {α : Type} {T TI E : TypeId} {kn : IntKind} {enc : α → List Value} {k bytes R n c u c2 m : Nat} {xs : List α} (el : Elem P T E k bytes) (hk : ∀ x, (enc x).length = k) (hTI : P.underlying TI = some (.int kn)) (z0 : α) (hz : zeroIs P E k (enc z0)) (S : St G w0 w L) (i : Nat)
    (hi : L[i]? = some (Own E enc k (.slice (some ⟨R, 0, none⟩) n c) xs)) (hx : a.eval x = .slice (some ⟨R, 0, none⟩) u c2) (hy : a.eval y = .int .i64 m) (hu : u ≤ xs.length) (h0 : 0 < m) (hg : c2 < u + m) (hl : u + m ≤ 4294967296) (hby : bytes ≤ 16384) (nn : Nat) (hnn : nn = u + m)
    (next : ∀ b c' w', St G w0 w' (Own E enc k (.slice (some ⟨b, 0, none⟩) nn c') (xs.take u ++ List.replicate m z0) :: L) → wpList P ops Q rest (a.put d (.slice (some ⟨b, 0, none⟩) nn c')) w') (hgd : gOk gd ops a = true := by with_unfolding_all rfl) :
    wpList P ops Q ({ dst := d, op := .call { callee := .builtin .append, args := #[x, y], argTypes := #[T, TI] }, type := tt, pos := p, after := af, guard := gd } :: rest) a w :=
  wpList_ok hgd fun K hK => by
    subst hnn
    obtain ⟨F0, hF0⟩ := S.get hi
    obtain ⟨cur, hO, hn⟩ := own_at hF0
    obtain ⟨ei, z, ht, hei, hez, hs, hbb, hzs, hpos⟩ := el
    obtain ⟨i', z', g1, g2, g3, g4, g5⟩ := hz
    have e1 : ei = i' := by have := hei; rw [g1] at this; exact (Option.some.inj this).symm
    subst e1
    have e2 : z = z' := by have := hez; rw [g2] at this; exact (Option.some.inj this).symm
    subst e2
    subst hs
    have hO2 := hO.cut hk u hu
    have hlen : (xs.take u).length = u := by rw [List.length_take]; omega
    have hfl : (flatE enc (xs.take u)).length = u * ei.size := by rw [flatE_length hk, hlen]
    have hcells : ∀ j v, (flatE enc (xs.take u))[j]? = some v → w.drew.cell? ⟨R, 0 + 0 + j, none⟩ = some v := fun j v hj => by
      have hj2 := (List.getElem?_eq_some_iff.1 hj).1
      have : w.drew.heap[R]? = some (.cells cur E (0, 0)) := hO.heap
      simp only [Nat.zero_add]
      rw [cell_of this]
      rw [← hO2.take, hlen, List.getElem?_take, if_pos (by omega)] at hj
      simpa using hj
    have hold : (Builtin.firstCells ei.size u (.slice (some ⟨R, 0, none⟩) u c2)).run P w.drew = .ok (flatE enc (xs.take u)).toArray w.drew := by
      have := run_loadCells (P := P) R 0 w.drew (flatE enc (xs.take u)) 0 #[] hcells
      unfold Builtin.firstCells loadCells
      rw [← hfl]; simpa using this
    have hfit : Builtin.nextslicecap (u + m) c2 * ei.bytes ≤ 281474976710656 := by
      refine growslice_fits (by omega) ?_
      have : (u + m) * ei.bytes ≤ 4294967296 * 16384 := Nat.mul_le_mul hl (by rw [hbb]; exact hby)
      omega
    have hr := Lib.run_append_grow_zeros (P := P) w T TI tt E ei z .i64 kn ht hTI hei hez (some ⟨R, 0, none⟩) u c2 _ hold m h0 hpos hg (by omega) (by
      have : m * ei.bytes ≤ 4294967296 * 16384 := Nat.mul_le_mul (by omega) (by rw [hbb]; exact hby)
      omega) hfit
    unfold Oper.wp execOp
    simp only [resolve, invoke, builtin, Sem.run_bind, Sem.run_pure, Result.andThen_ok, List.map_toArray, List.map_cons, List.map_nil, hx, hy, hr]
    refine hK _ _ (next _ _ _ (S.grow (F := fun b => b = w.heap.size) ⟨rfl, rfl, rfl, by simp, fun q hq _ => heap_alloc_old w.drew _ hq, Nat.le_succ _⟩ ?_ (fun b hb => by rw [hb]; exact Nat.le_refl _)))
    have hge := grownCap_ge w (u + m) c2 E
    have hl2 : (xs.take u ++ List.replicate m z0).length = u + m := by rw [List.length_append, hlen, List.length_replicate]
    have hzl : (Builtin.zeroCells z.cells m).toList = flatE enc (List.replicate m z0) := zeroCells_rep hk g4 _
    have hO3 : OwnAt E enc ei.size 0 (w.drew.alloc (.cells ((flatE enc (xs.take u)).toArray ++ Builtin.zeroCells z.cells m ++ Builtin.zeroCells z.cells (grownCap w (u + m) c2 E - (u + m))) E)) w.heap.size (grownCap w (u + m) c2 E) ((flatE enc (xs.take u)).toArray ++ Builtin.zeroCells z.cells m ++ Builtin.zeroCells z.cells (grownCap w (u + m) c2 E - (u + m))) (xs.take u ++ List.replicate m z0) := by
      refine ⟨heap_alloc_new w.drew _, Nat.zero_le _, by rw [hl2]; exact hge, grownCap_le_maxLen w _ _ E (by simp only [maxLen]; omega), ?_, ?_⟩
      · simp only [Array.size_append, List.size_toArray, size_zeroCells, hzs, hfl, ← Nat.add_mul]
        congr 1; omega
      · simp only [Array.toList_append, hzl]
        rw [hl2, flatE_append, ← show (flatE enc (xs.take u) ++ flatE enc (List.replicate m z0)).length = (u + m) * ei.size by rw [List.length_append, hfl, flatE_length hk, List.length_replicate, ← Nat.add_mul]]
        exact List.take_left
    have := hO3.own hk
    rw [hl2] at this
    exact ⟨this, fun b => by simp [Value.ownBlock, eq_comm]⟩
end
section
variable {P : Program} {α : Type} {enc : α → List Value} {k : Nat}
theorem splice_toList (cs : Array Value) (o : Nat) (vs : List Value) : (splice cs o vs).toList = cs.toList.take o ++ vs ++ cs.toList.drop (o + vs.length) := rfl
theorem splice_ins (hk : ∀ x, (enc x).length = k) {cur : Array Value} {xs : List α} {n i : Nat} (e : α) (hn : n = xs.length) (hi : i ≤ n) (hs : (n + 1) * k ≤ cur.size) (ht : cur.toList.take (n * k) = flatE enc xs) :
    (splice (splice cur ((i + 1) * k) (flatE enc (xs.drop i))) (i * k) (enc e)).toList.take ((n + 1) * k) = flatE enc (xs.take i ++ e :: xs.drop i) ∧ (splice (splice cur ((i + 1) * k) (flatE enc (xs.drop i))) (i * k) (enc e)).size = cur.size := by
  subst hn
  have hle : i * k ≤ xs.length * k := Nat.mul_le_mul_right _ hi
  have hsx : (xs.length + 1) * k = xs.length * k + k := Nat.succ_mul _ _
  have hix : (i + 1) * k = i * k + k := Nat.succ_mul _ _
  have hd : (flatE enc (xs.drop i)).length = xs.length * k - i * k := by rw [flatE_length hk, List.length_drop, Nat.sub_mul]
  have h1 : (splice cur ((i + 1) * k) (flatE enc (xs.drop i))).size = cur.size := splice_size (by rw [hd]; omega)
  have h2 : (splice (splice cur ((i + 1) * k) (flatE enc (xs.drop i))) (i * k) (enc e)).size = cur.size := by rw [splice_size (by rw [h1, hk]; omega), h1]
  refine ⟨?_, h2⟩
  have hcl : cur.toList.length = cur.size := Array.length_toList
  have ht1 : cur.toList.take (i * k) = flatE enc (xs.take i) := by
    rw [flatE_take hk, ← ht, List.take_take, Nat.min_eq_left hle]
  have e1 : (splice cur ((i + 1) * k) (flatE enc (xs.drop i))).toList = cur.toList.take (i * k + k) ++ flatE enc (xs.drop i) ++ cur.toList.drop (xs.length * k + k) := by
    unfold splice
    rw [hix, hd, show i * k + k + (xs.length * k - i * k) = xs.length * k + k by omega]
  have hl1 : (cur.toList.take (i * k + k)).length = i * k + k := by rw [List.length_take, hcl]; omega
  have e2 : (cur.toList.take (i * k + k) ++ flatE enc (xs.drop i) ++ cur.toList.drop (xs.length * k + k)).take (i * k) = flatE enc (xs.take i) := by
    rw [List.append_assoc, List.take_append_of_le_length (by rw [hl1]; omega), List.take_take, Nat.min_eq_left (by omega), ht1]
  have e3 : (cur.toList.take (i * k + k) ++ flatE enc (xs.drop i) ++ cur.toList.drop (xs.length * k + k)).drop (i * k + k) = flatE enc (xs.drop i) ++ cur.toList.drop (xs.length * k + k) := by
    rw [List.append_assoc, List.drop_left' hl1]
  rw [splice_toList, e1, hk, e2, e3]
  rw [flatE_append, flatE_cons]
  simp only [List.append_assoc]
  rw [← List.append_assoc (enc e), ← List.append_assoc (flatE enc (xs.take i))]
  refine List.take_left' ?_
  rw [List.length_append, List.length_append, flatE_length hk, hk, hd, List.length_take, hsx]
  rw [Nat.min_eq_left hi]
  omega
theorem splice_ins2 (hk : ∀ x, (enc x).length = k) {cur : Array Value} {xs : List α} {n i : Nat} (e : α) (hn : n = xs.length) (hi : i ≤ n) (hs : (n + 1) * k ≤ cur.size) (ht : cur.toList.take (i * k) = flatE enc (xs.take i)) :
    (splice (splice cur (i * k) (enc e)) ((i + 1) * k) (flatE enc (xs.drop i))).toList.take ((n + 1) * k) = flatE enc (xs.take i ++ e :: xs.drop i) ∧ (splice (splice cur (i * k) (enc e)) ((i + 1) * k) (flatE enc (xs.drop i))).size = cur.size := by
  subst hn
  have hle : i * k ≤ xs.length * k := Nat.mul_le_mul_right _ hi
  have hsx : (xs.length + 1) * k = xs.length * k + k := Nat.succ_mul _ _
  have hix : (i + 1) * k = i * k + k := Nat.succ_mul _ _
  have hd : (flatE enc (xs.drop i)).length = xs.length * k - i * k := by rw [flatE_length hk, List.length_drop, Nat.sub_mul]
  have h1 : (splice cur (i * k) (enc e)).size = cur.size := splice_size (by rw [hk]; omega)
  refine ⟨?_, by rw [splice_size (by rw [h1, hd]; omega), h1]⟩
  have hcl : cur.toList.length = cur.size := Array.length_toList
  have hl0 : (cur.toList.take (i * k)).length = i * k := by rw [List.length_take, hcl]; omega
  have e2 : (splice cur (i * k) (enc e)).toList.take (i * k + k) = flatE enc (xs.take i) ++ enc e := by
    rw [splice_toList, ht]
    refine List.take_left' ?_
    rw [List.length_append, ← ht, hl0, hk]
  rw [splice_toList, hix, e2, flatE_append, flatE_cons]
  simp only [List.append_assoc]
  rw [← List.append_assoc (enc e), ← List.append_assoc (flatE enc (xs.take i))]
  refine List.take_left' ?_
  rw [List.length_append, List.length_append, ← ht, hl0, hk, hd, hsx]
  omega
theorem flat_src {cs : Array Value} {xs : List α} {n i : Nat} (hk : ∀ x, (enc x).length = k) (ht : cs.toList.take (n * k) = flatE enc xs) (q : Nat) (v : Value) (h : (flatE enc (xs.drop i))[q]? = some v) : cs[i * k + q]? = some v := by
  have e : flatE enc xs = flatE enc (xs.take i) ++ flatE enc (xs.drop i) := by rw [← flatE_append, List.take_append_drop]
  have h0 : i ≤ xs.length := by
    rcases Nat.lt_or_ge xs.length i with h2 | h2
    · rw [List.drop_eq_nil_of_le (by omega)] at h; simp [flatE] at h
    · exact h2
  have hl : (flatE enc (xs.take i)).length = i * k := by rw [flatE_length hk, List.length_take, Nat.min_eq_left h0]
  have h1 : (flatE enc xs)[i * k + q]? = some v := by
    rw [e, List.getElem?_append_right (by omega), hl, Nat.add_sub_cancel_left]; exact h
  rw [← ht] at h1
  have h2 := (List.getElem?_eq_some_iff.1 h1).1
  rw [List.getElem?_take, if_pos (by rw [List.length_take] at h2; omega)] at h1
  simpa using h1
theorem flat_ones {xs : List α} (hone : ∀ x, ∀ u ∈ enc x, u.oneCell' = true) : ∀ v ∈ flatE enc xs, v.oneCell' = true := fun v hv => by
  obtain ⟨y, _, hy⟩ := List.mem_flatMap.1 hv
  exact hone y v hy
end
section
variable {P : Program} {ops : Array Oper} {rest : List Oper} {a : Act} {Q : Exit → Act → World → Prop} {d : Option Tmp} {tt : TypeId} {p : String} {af : Array Edge} {gd : Option (Nat × Bool)} {x y : Operand}
variable {G : Nat → Prop} {w0 w w' : World} {L : List Asn}
theorem wps_slv {T E : TypeId} {k R n c l u : Nat} {lo hi' : Option Operand} (hT : P.underlying T = some (.slice E)) (hE : ∀ w, (sizeOf E).run P w = .ok k w) (hx : a.eval x = .slice (some ⟨R, 0, none⟩) n c)
    (hlo : (lo.map a.eval = none ∧ l = 0) ∨ lo.map a.eval = some (.int .i64 l)) (hhi : (hi'.map a.eval = none ∧ u = n) ∨ hi'.map a.eval = some (.int .i64 u)) (h1 : l ≤ u) (h2 : u ≤ c) (h3 : l < c)
    (next : wpList P ops Q rest (a.put d (.slice (some ⟨R, l * k, none⟩) (u - l) (c - l))) w) (hgd : gOk gd ops a = true := by with_unfolding_all rfl) :
    wpList P ops Q ({ dst := d, op := .slice T x lo hi' none, type := tt, pos := p, after := af, guard := gd } :: rest) a w :=
  wpList_ok hgd fun K hK => by
    have hr := run_sliceAt_sl (P := P) (w := w) hT (hE w) (some ⟨R, 0, none⟩) n c l u _ _ hlo hhi h1 h2
    rw [if_neg (by omega)] at hr
    simp only [Option.map_some, add_none, Nat.zero_add] at hr
    unfold Oper.wp execOp
    simp only [Option.map_none, hx, hr, Sem.run_bind, Sem.run_pure, Result.andThen_ok]
    exact hK _ _ next
theorem wps_slany {T E : TypeId} {k n c l u : Nat} {ad : Option Addr} {lo hi' : Option Operand} (hT : P.underlying T = some (.slice E)) (hE : ∀ w, (sizeOf E).run P w = .ok k w) (hx : a.eval x = .slice ad n c)
    (hlo : (lo.map a.eval = none ∧ l = 0) ∨ lo.map a.eval = some (.int .i64 l)) (hhi : (hi'.map a.eval = none ∧ u = n) ∨ hi'.map a.eval = some (.int .i64 u)) (h1 : l ≤ u) (h2 : u ≤ c)
    (next : ∀ ad', wpList P ops Q rest (a.put d (.slice ad' (u - l) (c - l))) w) (hgd : gOk gd ops a = true := by with_unfolding_all rfl) :
    wpList P ops Q ({ dst := d, op := .slice T x lo hi' none, type := tt, pos := p, after := af, guard := gd } :: rest) a w :=
  wpList_ok hgd fun K hK => by
    have hr := run_sliceAt_sl (P := P) (w := w) hT (hE w) ad n c l u _ _ hlo hhi h1 h2
    unfold Oper.wp execOp
    simp only [Option.map_none, hx, hr, Sem.run_bind, Sem.run_pure, Result.andThen_ok]
    exact hK _ _ (next _)
theorem St.blk_ne {b b2 : Nat} {cs cs2 : Array Value} {t t2 : TypeId} {sh : Bool} (S : St G w0 w L) (i j : Nat) (hi : L[i]? = some (Blk false b cs t)) (hj : L[j]? = some (Blk sh b2 cs2 t2)) (hij : i ≠ j) : b ≠ b2 := by
  obtain ⟨Fs, hf, hd⟩ := S.ex
  have h1 := (hf i _ hi).1
  have h2 := (hf j _ hj).1
  have g1 : Fs i b := (h1.2 b).2 rfl
  rintro rfl
  have g2 : Fs j b := (h2.2 b).2 rfl
  rcases Nat.lt_or_gt_of_ne hij with h | h
  · rcases hd i j _ _ h hi hj with ⟨e, _⟩ | e
    · cases e
    · exact e b g1 g2
  · rcases hd j i _ _ h hj hi with ⟨_, e⟩ | e
    · cases e
    · exact e b g2 g1
theorem run_over {fo : FuncId} {fn : Func} {T E tR : TypeId} {k b b2 o lb cb : Nat} {cs cs2 : Array Value} {t t2 : TypeId} (hf : P.funcs[fo]? = some fn) (hname : (fn.name == "runtime.NumGoroutine") = false) (hb : fn.body.isNone = true) (hn : Extern.findNext fn = none)
    (he : Extern.find fn = some (Extern.SlicesOverlaps.overlaps #[T, T] #[tR])) (hT : P.underlying T = some (.slice E)) (hE : ∀ w, (sizeOf E).run P w = .ok k w) (h1 : w.heap[b]? = some (.cells cs t (0, 0))) (h2 : w.heap[b2]? = some (.cells cs2 t2 (0, 0))) (hne : b2 ≠ b) (h0 : cs.size ≠ 0) (n c : Nat) :
    (callFunc fo #[.slice (some ⟨b2, 0, none⟩) n c, .slice (some ⟨b, o, none⟩) lb cb]).run P w = .ok (.value (.bool false)) w := by
  rw [run_callFunc_extern hf hname hb hn he]
  rw [Lib.run_overlaps_apart w T tR E hT k hE ⟨b2, 0, none⟩ ⟨b, o, none⟩ n c lb cb hne t2 t cs2.size cs.size (by simp [World.shape?, h2]) (by simp [World.shape?, h1]) h0 (by simp [World.frozen?, h2]) (by simp [World.frozen?, h2])]
  rfl
end
end Go.Proofs.YtmjljoaakdocaaaGreatDoor.Mem
/- The net as a thing; the walks of its New and Send. -/
namespace Go.Proofs.YtmjljoaakdocaaaGreatDoor
open Go Go.RowKit Reg Mem

structure ItemE where
  kind : Int
  m : Message
  no : Int
  at_ : Int
structure PkE where
  no : Int
  from_ : Int
  to_ : Int
  x : ItemE
def itcell (x : ItemE) : List Value := [.int .i64 x.kind, .int .i64 x.m.ev.key.at_, .int .i64 x.m.ev.key.src, .int .i64 x.m.ev.key.sent, .int .i64 x.m.ev.key.no, .int .i64 x.m.ev.dst, .int .i64 x.m.ev.kind, .int .i64 x.m.ev.data, .bool x.m.anti, .int .i64 x.no, .int .i64 x.at_]
theorem itcells : ∀ x, (itcell x).length = 11 := fun _ => rfl
def pkcell (x : PkE) : List Value := [.int .i64 x.no, .int .i64 x.from_, .int .i64 x.to_, .int .i64 x.x.kind, .int .i64 x.x.m.ev.key.at_, .int .i64 x.x.m.ev.key.src, .int .i64 x.x.m.ev.key.sent, .int .i64 x.x.m.ev.key.no, .int .i64 x.x.m.ev.dst, .int .i64 x.x.m.ev.kind, .int .i64 x.x.m.ev.data, .bool x.x.m.anti, .int .i64 x.x.no, .int .i64 x.x.at_]
theorem pkcells : ∀ x, (pkcell x).length = 14 := fun _ => rfl
theorem pkone : ∀ x, ∀ u ∈ pkcell x, u.oneCell' = true := fun _ => by simp [pkcell, Value.oneCell']
set_option maxRecDepth 100000 in
theorem elem_Pk : Elem Tryz.prog 145 100 14 112 := ⟨_, .agg #[.int .i64 0, .int .i64 0, .int .i64 0, .int .i64 0, .int .i64 0, .int .i64 0, .int .i64 0, .int .i64 0, .int .i64 0, .int .i64 0, .int .i64 0, .bool false, .int .i64 0, .int .i64 0], Tryz.underlying145, rfl, by kernel_rfl, by kernel_rfl, by kernel_rfl, by kernel_rfl, by omega⟩
structure NetE where
  boxes : Int
  next : Int
  way : List PkE
def netB (X : Nat) (n : NetE) (v : Value) : Asn := sep false (Blk false X #[.int .i64 n.boxes, .int .i64 n.next, v] 147) (Mem.Own 100 pkcell 14 v n.way)
def netA (X : Nat) (n : NetE) : Asn := exs false (netB X n)
theorem net_open {G : Nat → Prop} {w0 w : World} {L : List Asn} {X : Nat} {n : NetE} (S : St G w0 w (netA X n :: L)) : ∃ v, St G w0 w (Blk false X #[.int .i64 n.boxes, .int .i64 n.next, v] 147 :: Mem.Own 100 pkcell 14 v n.way :: L) := by
  obtain ⟨v, S⟩ := S.open_exs (fun _ => rfl)
  exact ⟨v, S.open_sep rfl rfl⟩
theorem net_close {G : Nat → Prop} {w0 w : World} {L : List Asn} {X : Nat} {n : NetE} {v : Value} (S : St G w0 w (Blk false X #[.int .i64 n.boxes, .int .i64 n.next, v] 147 :: Mem.Own 100 pkcell 14 v n.way :: L)) : St G w0 w (netA X n :: L) := by
  have S2 : St G w0 w (netB X n v :: L) := S.close_sep rfl rfl
  exact S2.close_exs (A := netB X n) v rfl
def NetNewPost (boxes : Int) (w : World) (e : Ending) (w' : World) : Prop :=
  (boxes < 1 ∨ boxes > 64) ∧ e = .returned (.tuple #[.pointer none, .int .i64 1]) ∧ Below w.heap.size w w' ∨
  (1 ≤ boxes ∧ boxes ≤ 64) ∧ ∃ X, e = .returned (.tuple #[.pointer (some ⟨X, 0, none⟩), .int .i64 0]) ∧ St (fun _ => False) w w' [netA X ⟨boxes, 0, []⟩]
set_option maxRecDepth 100000 in
theorem netnew_calls (boxes : Int) (w : World) : Calls Tryz.prog 27 #[.int .i64 boxes] w (NetNewPost boxes w) := by
  have S := St.init (fun _ => False) w
  by_cases h1 : boxes < 1
  · have f1 : decide (boxes < 1) = true := decide_eq_true h1
    go_enter Tryz.func27, Tryz.ntmps27
    go_wp2_with first | ((with_reducible apply wps_box1 (v := .func _ _ _) S); (case hx | h1 => rfl); clear S; intro bz wz S)
    (try simp only [Exit.inBlock, Exit.then]); refine bodyPost_ret (results2 rfl (res_tmp rfl) (res_tmp rfl)) rfl ?_
    exact .inl ⟨.inl h1, rfl, S.below⟩
  · have f1 : decide (boxes < 1) = false := decide_eq_false h1
    by_cases h2 : boxes > 64
    · have f2 : decide (boxes > 64) = true := decide_eq_true h2
      go_enter Tryz.func27, Tryz.ntmps27
      go_wp2_with first | ((with_reducible apply wps_box1 (v := .func _ _ _) S); (case hx | h1 => rfl); clear S; intro bz wz S)
      (try simp only [Exit.inBlock, Exit.then]); refine bodyPost_ret (results2 rfl (res_tmp rfl) (res_tmp rfl)) rfl ?_
      exact .inl ⟨.inr h2, rfl, S.below⟩
    · have f2 : decide (boxes > 64) = false := decide_eq_false h2
      go_enter Tryz.func27, Tryz.ntmps27
      go_wp2_with first | ((with_reducible apply wps_boxa (E := 147) S); (case hx => rfl); clear S; intro bX wz S)
      (try simp only [Exit.inBlock, Exit.then]); refine bodyPost_ret (results2 rfl (res_tmp rfl) (res_tmp rfl)) rfl ?_
      replace S := S.nil 100 pkcell 14
      exact .inr ⟨⟨by omega, by omega⟩, bX, rfl, net_close (S.pick [1, 0] rfl)⟩
def boxB (n no : Int) : Bool := decide (0 ≤ no ∧ no < n)
set_option maxRecDepth 100000 in
theorem netbox_calls (X : Nat) (n : NetE) (v : Value) (no : Int) (w : World) (F : Nat → Prop) (h : (Blk true X #[.int .i64 n.boxes, .int .i64 n.next, v] 147).at_ w F) : Calls Tryz.prog 128 #[.pointer (some ⟨X, 0, none⟩), .int .i64 no] w fun e w' => e = .returned (.bool (boxB n.boxes no)) ∧ Below w.heap.size w w' := by
  have S : St (fun _ => False) w w [Blk true X #[.int .i64 n.boxes, .int .i64 n.next, v] 147] := (St.init _ w).share rfl rfl h
  clear h
  by_cases h1 : no ≥ 0
  · have f1 : decide (no ≥ 0) = true := decide_eq_true h1
    go_enter Tryz.func128, Tryz.ntmps128
    go_wp2_with first | ((with_reducible apply wps_load S 0); (case hx | hi | hu => rfl); (case hT => decide +kernel))
    go_ret
    exact ⟨ret_bool (by unfold boxB; rw [Bool.eq_iff_iff]; simp; omega), S.below⟩
  · have f1 : decide (no ≥ 0) = false := decide_eq_false h1
    go_enter Tryz.func128, Tryz.ntmps128
    go_wp2_with first | ((with_reducible apply wps_load S 0); (case hx | hi | hu => rfl); (case hT => decide +kernel))
    go_ret
    exact ⟨ret_bool (by unfold boxB; rw [Bool.eq_iff_iff]; simp; omega), S.below⟩
end Go.Proofs.YtmjljoaakdocaaaGreatDoor
/- A part of a slice is taken out of it, in its place. Over any program. -/
namespace Go.Proofs.YtmjljoaakdocaaaGreatDoor.Mem
open Go Go.RowKit Reg
section
variable {P : Program} {ops : Array Oper} {rest : List Oper} {a : Act} {Q : Exit → Act → World → Prop} {d : Option Tmp} {tt : TypeId} {p : String} {af : Array Edge} {gd : Option (Nat × Bool)} {x y : Operand}
variable {G : Nat → Prop} {w0 w w' : World} {L : List Asn}
theorem run_sl3 {T E : TypeId} {k : Nat} (hT : P.underlying T = some (.slice E)) (hE : (sizeOf E).run P w = .ok k w) (ad : Option Addr) (n c l u m : Nat) (h1 : l ≤ u) (h2 : u ≤ m) (h3 : m ≤ c) :
    (Instr.sliceAt T (.slice ad n c) (some (.int .i64 l)) (some (.int .i64 u)) (some (.int .i64 m))).run P w = .ok (.slice (if m = l then ad else ad.map (·.add (l * k))) (u - l) (m - l)) w := by
  have g1 : ¬ u < l := by omega
  have g2 : ¬ m < u := by omega
  have g3 : ¬ c < m := by omega
  unfold Instr.sliceAt
  simp [Instr.slice, run_underlying hT, Instr.sliceBounds, Instr.sliceBound, asIntOf, hE, h1, h2, h3]
theorem wps_sl3 {T E : TypeId} {k n c l u m : Nat} {ad : Option Addr} {lo hi' mx : Operand} (hT : P.underlying T = some (.slice E)) (hE : ∀ w, (sizeOf E).run P w = .ok k w) (hx : a.eval x = .slice ad n c)
    (hlo : a.eval lo = .int .i64 l) (hhi : a.eval hi' = .int .i64 u) (hmx : a.eval mx = .int .i64 m) (h1 : l ≤ u) (h2 : u ≤ m) (h3 : m ≤ c)
    (next : ∀ v, wpList P ops Q rest (a.put d v) w) (hgd : gOk gd ops a = true := by with_unfolding_all rfl) :
    wpList P ops Q ({ dst := d, op := .slice T x (some lo) (some hi') (some mx), type := tt, pos := p, after := af, guard := gd } :: rest) a w :=
  wpList_ok hgd fun K hK => by
    have hr := run_sl3 (P := P) (w := w) hT (hE w) ad n c l u m h1 h2 h3
    unfold Oper.wp execOp
    simp only [Option.map_some, hx, hlo, hhi, hmx, hr, Sem.run_bind, Sem.run_pure, Result.andThen_ok]
    exact hK _ _ (next _)
theorem St.cutOwn {α : Type} {E : TypeId} {enc : α → List Value} {k R n c : Nat} {xs : List α} (S : St G w0 w L) (hk : ∀ x, (enc x).length = k) (i : Nat) (hi : L[i]? = some (Own E enc k (.slice (some ⟨R, 0, none⟩) n c) xs)) (u : Nat) (h1 : u ≤ xs.length) :
    St G w0 w (L.set i (Own E enc k (.slice (some ⟨R, 0, none⟩) u c) (xs.take u))) :=
  S.weak hi (fun _ => rfl) fun F hF => ⟨F, fun _ hb => hb, by
    obtain ⟨cur, hO, hn⟩ := own_at hF
    have := (hO.cut hk u h1).own hk
    rwa [show (xs.take u).length = u by rw [List.length_take]; omega] at this, fun x => by rw [hF.2 x]; rfl⟩
theorem wps_appendin {T E : TypeId} {k bytes R o2 u c m c2 : Nat} {cur : Array Value} (el : Elem P T E k bytes) (S : St G w0 w L) (i : Nat) (hi : L[i]? = some (Blk false R cur E)) (us : List Value) (nn : Nat)
    (hx : a.eval x = .slice (some ⟨R, 0, none⟩) u c) (hy : a.eval y = .slice (some ⟨R, o2, none⟩) m c2) (hn : us.length = m * k) (hsrc : ∀ q v, us[q]? = some v → cur[o2 + q]? = some v) (hnn : nn = u + m) (hroom : u + m ≤ c) (hfit : u * k + us.length ≤ cur.size) (h1 : ∀ v ∈ us, v.oneCell' = true)
    (next : ∀ w', St G w0 w' (L.set i (Blk false R (splice cur (u * k) us) E)) → wpList P ops Q rest (a.put d (.slice (some ⟨R, 0, none⟩) nn c)) w') (hgd : gOk gd ops a = true := by with_unfolding_all rfl) :
    wpList P ops Q ({ dst := d, op := .call { callee := .builtin .append, args := #[x, y], argTypes := #[T, T] }, type := tt, pos := p, after := af, guard := gd } :: rest) a w :=
  wpList_ok hgd fun K hK => by
    subst hnn
    obtain ⟨ei, z, ht, hei, hez, hs, hbb, hzs, hpos⟩ := el
    subst hs
    have hb := S.blk i hi
    have hl := run_loadCells (P := P) R o2 w us 0 #[] (fun j v hj => by rw [Nat.add_zero, cell_of hb]; exact hsrc j v hj)
    have hl2 : (Builtin.firstCells ei.size m (.slice (some ⟨R, o2, none⟩) m c2)).run P w = .ok us.toArray w := by
      unfold Builtin.firstCells loadCells; rw [← hn]; simpa using hl
    have hst := run_storeCells_at P R (u * ei.size) E us 0 cur w hb (by simpa using hfit) h1
    simp only [Nat.add_zero] at hst
    have hr : (Builtin.append_ #[T, T] tt #[.slice (some ⟨R, 0, none⟩) u c, .slice (some ⟨R, o2, none⟩) m c2]).run P w = .ok (.slice (some ⟨R, 0, none⟩) (u + m) c) (w.setRow R (splice cur (u * ei.size) us)) := by
      simp [Builtin.append_, run_underlying ht, sizeOf, typeInfo, hei, Builtin.lenOf, hroom, hl2, add_none, hst]
      unfold splice; rw [List.append_assoc]
    unfold Oper.wp execOp
    simp only [resolve, invoke, builtin, Sem.run_bind, Sem.run_pure, Result.andThen_ok, List.map_toArray, List.map_cons, List.map_nil, hx, hy, hr]
    exact hK _ _ (next _ (S.step hi rfl fun F hF => ⟨F, setRow_keep.mono (fun z _ hn e => hn ((hF.2 z).2 e)), ⟨setRow_heap w R cur _ E _ hb, hF.2⟩, fun _ h => .inl h⟩))
theorem wps_append0 {T E : TypeId} {k bytes u c m c2 : Nat} {ad ay : Option Addr} (el : Elem P T E k bytes)
    (hx : a.eval x = .slice ad u c) (hy : a.eval y = .slice ay m c2) (hm : m = 0) (hroom : u ≤ c)
    (next : wpList P ops Q rest (a.put d (.slice ad u c)) w) (hgd : gOk gd ops a = true := by with_unfolding_all rfl) :
    wpList P ops Q ({ dst := d, op := .call { callee := .builtin .append, args := #[x, y], argTypes := #[T, T] }, type := tt, pos := p, after := af, guard := gd } :: rest) a w :=
  wpList_ok hgd fun K hK => by
    subst hm
    obtain ⟨ei, z, ht, hei, hez, hs, hbb, hzs, hpos⟩ := el
    have hl : (Builtin.firstCells ei.size 0 (.slice ay 0 c2)).run P w = .ok #[] w := by
      cases ay <;> simp [Builtin.firstCells, loadCells, loadCellsFrom]
    have hr : (Builtin.append_ #[T, T] tt #[.slice ad u c, .slice ay 0 c2]).run P w = .ok (.slice ad u c) w := by
      cases ad <;> simp [Builtin.append_, run_underlying ht, sizeOf, typeInfo, hei, Builtin.lenOf, hroom, hl, storeCells]
    unfold Oper.wp execOp
    simp only [resolve, invoke, builtin, Sem.run_bind, Sem.run_pure, Result.andThen_ok, List.map_toArray, List.map_cons, List.map_nil, hx, hy, hr]
    exact hK _ _ next
end
section
variable {α : Type} {enc : α → List Value} {k : Nat}
theorem splice_del (hk : ∀ x, (enc x).length = k) {cur : Array Value} {xs : List α} {n i j : Nat} (hn : n = xs.length) (hij : i ≤ j) (hj : j ≤ n) (hs : n * k ≤ cur.size) (ht : cur.toList.take (n * k) = flatE enc xs) :
    (splice cur (i * k) (flatE enc (xs.drop j))).toList.take (n * k) = flatE enc (xs.take i ++ xs.drop j ++ xs.drop (i + (n - j))) ∧ (splice cur (i * k) (flatE enc (xs.drop j))).size = cur.size := by
  subst hn
  obtain ⟨d, rfl⟩ : ∃ d, j = i + d := ⟨j - i, by omega⟩
  obtain ⟨m, hm⟩ : ∃ m, xs.length = i + d + m := ⟨xs.length - (i + d), by omega⟩
  have hd : (flatE enc (xs.drop (i + d))).length = m * k := by rw [flatE_length hk, List.length_drop, hm]; congr 1; omega
  have e0 : i + (xs.length - (i + d)) = i + m := by omega
  rw [e0]
  have hnk : xs.length * k = i * k + d * k + m * k := by rw [hm, Nat.add_mul, Nat.add_mul]
  have him : (i + m) * k = i * k + m * k := Nat.add_mul ..
  have hcl : cur.toList.length = cur.size := Array.length_toList
  have ht1 : cur.toList.take (i * k) = flatE enc (xs.take i) := by
    rw [flatE_take hk, ← ht, List.take_take, Nat.min_eq_left (by omega)]
  have ht2 : (cur.toList.drop (i * k + m * k)).take (d * k) = flatE enc (xs.drop (i + m)) := by
    have e1 : flatE enc xs = flatE enc (xs.take (i + m)) ++ flatE enc (xs.drop (i + m)) := by rw [← flatE_append, List.take_append_drop]
    have l1 : (flatE enc (xs.take (i + m))).length = i * k + m * k := by rw [flatE_length hk, List.length_take, Nat.min_eq_left (by omega), him]
    have e2 := congrArg (List.drop (i * k + m * k)) (ht.trans e1)
    rw [List.drop_left' l1, List.drop_take] at e2
    rw [← e2]
    congr 1; omega
  refine ⟨?_, splice_size (by rw [hd]; omega)⟩
  rw [splice_toList, hd, flatE_append, flatE_append, ht1, ← ht2]
  have l2 : (flatE enc (xs.take i) ++ flatE enc (xs.drop (i + d))).length = i * k + m * k := by
    rw [List.length_append, hd, flatE_length hk, List.length_take, Nat.min_eq_left (by omega)]
  rw [List.take_append, l2, List.take_of_length_le (by rw [l2]; omega)]
  congr 2; omega
end
end Go.Proofs.YtmjljoaakdocaaaGreatDoor.Mem
/- Plain: the total order of events (by key, then by process, kind and data); a list sorted by it; events of one key counted once. No program in sight. -/
namespace Go.Proofs.YtmjljoaakdocaaaGreatDoor
open Go

def Event.tup (e : Event) : Int × Int × Int × Int × Int × Int × Int := (e.key.at_, e.key.src, e.key.sent, e.key.no, e.dst, e.kind, e.data)
def evLt (a b : Event) : Prop :=
  a.key.at_ < b.key.at_ ∨ (a.key.at_ = b.key.at_ ∧ (a.key.src < b.key.src ∨ (a.key.src = b.key.src ∧ (a.key.sent < b.key.sent ∨ (a.key.sent = b.key.sent ∧ (a.key.no < b.key.no ∨ (a.key.no = b.key.no ∧
    (a.dst < b.dst ∨ (a.dst = b.dst ∧ (a.kind < b.kind ∨ (a.kind = b.kind ∧ a.data < b.data)))))))))))
instance (a b : Event) : Decidable (evLt a b) := by unfold evLt; infer_instance
theorem evLt_irrefl (a : Event) : ¬ evLt a a := by unfold evLt; omega
theorem evLt_trans {a b c : Event} (h : evLt a b) (k : evLt b c) : evLt a c := by unfold evLt at *; omega
theorem evLt_total {a b : Event} (h : ¬ evLt a b) (k : ¬ evLt b a) : a = b := by
  obtain ⟨⟨a1, a2, a3, a4⟩, a5, a6, a7⟩ := a; obtain ⟨⟨b1, b2, b3, b4⟩, b5, b6, b7⟩ := b
  unfold evLt at *
  simp only [Event.mk.injEq, Key.mk.injEq] at *
  omega
def insTot (x : Event) : List Event → List Event
  | [] => [x]
  | y :: l => if evLt x y then x :: y :: l else y :: insTot x l
def sortT (l : List Event) : List Event := l.foldl (fun s x => insTot x s) []
theorem insTot_perm (x : Event) : ∀ l, (insTot x l).Perm (x :: l)
  | [] => .refl _
  | y :: l => by
    unfold insTot
    split
    · exact .refl _
    · exact ((insTot_perm x l).cons y).trans (.swap x y l)
def UpT (l : List Event) : Prop := l.Pairwise fun a b => ¬ evLt b a
theorem insTot_up (x : Event) : ∀ l, UpT l → UpT (insTot x l)
  | [], _ => by simp [insTot, UpT]
  | y :: l, h => by
    have h' := List.pairwise_cons.1 h
    unfold insTot
    split
    · rename_i hxy
      refine List.pairwise_cons.2 ⟨fun z hz => ?_, h⟩
      rcases List.mem_cons.1 hz with rfl | hz
      · exact fun k => evLt_irrefl _ (evLt_trans hxy k)
      · intro k
        exact h'.1 z hz (evLt_trans k hxy)
    · rename_i hxy
      refine List.pairwise_cons.2 ⟨fun z hz => ?_, insTot_up x l h'.2⟩
      rcases List.mem_cons.1 ((insTot_perm x l).mem_iff.1 hz) with rfl | hz
      · exact hxy
      · exact h'.1 z hz
theorem foldT_perm : ∀ (l s : List Event), (l.foldl (fun s x => insTot x s) s).Perm (l ++ s)
  | [], _ => .refl _
  | x :: l, s => (foldT_perm l (insTot x s)).trans (((insTot_perm x s).append_left l).trans List.perm_middle)
theorem foldT_up : ∀ (l s : List Event), UpT s → UpT (l.foldl (fun s x => insTot x s) s)
  | [], _, h => h
  | x :: l, _, h => foldT_up l _ (insTot_up x _ h)
theorem sortT_perm (l : List Event) : (sortT l).Perm l := (foldT_perm l []).trans (by rw [List.append_nil])
theorem sortT_up (l : List Event) : UpT (sortT l) := foldT_up l [] List.Pairwise.nil
theorem upT_eq {l m : List Event} (hp : l.Perm m) (hl : UpT l) (hm : UpT m) : l = m :=
  hp.eq_of_pairwise (fun _ _ _ _ h k => (evLt_total k h)) hl hm
theorem sortT_eq {l m : List Event} (hp : m.Perm l) (hm : UpT m) : m = sortT l := upT_eq (hp.trans (sortT_perm l).symm) hm (sortT_up l)
def onceFrom : Option Key → List Event → List Event
  | _, [] => []
  | k, x :: l => if k = some x.key then onceFrom k l else x :: onceFrom (some x.key) l
def once (l : List Event) : List Event := onceFrom none l
end Go.Proofs.YtmjljoaakdocaaaGreatDoor

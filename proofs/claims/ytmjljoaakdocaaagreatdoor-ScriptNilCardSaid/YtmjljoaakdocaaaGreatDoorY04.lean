import Derived.Test.YtmjljoaakdocaaaGreatDoorY03
import Derived.Laws.Concat
import Derived.Laws.Strings3
import Derived.Laws.BytesString
import Derived.Test.YtmjljoaakdocaaaGreatDoorProg
import Derived.WalkKit
import Derived.WalkSpells
import Derived.WalkLawsBesides
import Derived.Lib.BufferWrite
import Derived.Lib.UnsafeStr
import Derived.Lib.AppendStr
import Derived.Test.YtmjljoaakdocaaaGreatDoorY05
import Derived.Lib.IfaceEq
/- Operations on strings as laws: a string as a list of bytes. Over any program. -/
namespace Go.Proofs.YtmjljoaakdocaaaGreatDoor
open Go

def str (l : List UInt8) : ByteArray := ⟨l.toArray⟩
def strV (l : List UInt8) : Value := .string (str l)
def strcell (l : List UInt8) : List Value := [strV l]
theorem strcells : ∀ x, (strcell x).length = 1 := fun _ => rfl
theorem strone : ∀ x, ∀ u ∈ strcell x, u.oneCell' = true := fun x u hu => by
  simp only [strcell, List.mem_singleton] at hu; subst hu; rfl
theorem str_size (l : List UInt8) : (str l).size = l.length := by simp [str, ByteArray.size]
theorem str_toList (l : List UInt8) : (str l).toList = l := ByteArray.toList_mk l
theorem str_data (l : List UInt8) : (str l).data.toList = l := by simp [str]
theorem str_of (s : ByteArray) : s = str s.data.toList := (Lib.mk_data s).symm
end Go.Proofs.YtmjljoaakdocaaaGreatDoor
namespace Go.Proofs.YtmjljoaakdocaaaGreatDoor.Mem
open Go Go.RowKit Reg
section
variable {P : Program} {ops : Array Oper} {rest : List Oper} {a : Act} {Q : Exit → Act → World → Prop} {d : Option Tmp} {tt : TypeId} {p : String} {af : Array Edge} {gd : Option (Nat × Bool)} {x y : Operand} {w : World}
theorem wps_slen {l : List UInt8} {T : TypeId} (hx : a.eval x = strV l) (hT : P.underlying T = some .string) (next : wpList P ops Q rest (a.put d (.int .i64 l.length)) w) (hgd : gOk gd ops a = true := by with_unfolding_all rfl) :
    wpList P ops Q ({ dst := d, op := .call { callee := .builtin .len, args := #[x], argTypes := #[T] }, type := tt, pos := p, after := af, guard := gd } :: rest) a w :=
  wpList_ok hgd fun K hK => by
    have hr : (Builtin.len_ #[T] tt #[strV l]).run P w = .ok (.int .i64 l.length) w := by
      show (Builtin.len_ #[T] tt #[.string (str l)]).run P w = _
      rw [run_len_string w T tt (str l) hT, str_size]; rfl
    unfold Oper.wp execOp
    simp only [resolve, invoke, builtin, Sem.run_bind, Sem.run_pure, Result.andThen_ok, List.map_toArray, List.map_cons, List.map_nil, hx, hr]
    exact hK _ _ next
theorem wps_sidx {l : List UInt8} {T : TypeId} {k : IntKind} {j : Int} {b : UInt8} {z : Int} (hb : l[j.toNat]? = some b) (hx : a.eval x = strV l) (hy : a.eval y = .int k j) (h0 : 0 ≤ j) (hT : P.underlying T = some .string) (hz : (b.toNat : Int) = z)
    (next : wpList P ops Q rest (a.put d (.int .u8 z)) w) (hgd : gOk gd ops a = true := by with_unfolding_all rfl) : wpList P ops Q ({ dst := d, op := .index T x y, type := tt, pos := p, after := af, guard := gd } :: rest) a w :=
  wpList_ok hgd fun K hK => by
    have hl : j.toNat < l.length := (List.getElem?_eq_some_iff.1 hb).1
    have hi : j.toNat < (str l).size := by rw [str_size]; exact hl
    have hr : (Instr.index T (strV l) (.int k j)).run P w = .ok (.int .u8 z) w := by
      show (Instr.index T (.string (str l)) (.int k j)).run P w = _
      rw [run_index_string w T (str l) k j hT, dif_pos ⟨h0, by omega⟩, ← hz]
      have e : (str l)[j.toNat] = b := by
        have := (List.getElem?_eq_some_iff.1 hb).2
        rw [← this]; rfl
      rw [e]
    unfold Oper.wp execOp
    simp only [hx, hy, hr, Sem.run_bind, Sem.run_pure, Result.andThen_ok]
    exact hK _ _ next
theorem wps_seql {l m : List UInt8} {T U : TypeId} {b : Bool} (hx : a.eval x = strV l) (hy : a.eval y = strV m) (hb : decide (l = m) = b)
    (next : wpList P ops Q rest (a.put d (.bool b)) w) (hgd : gOk gd ops a = true := by with_unfolding_all rfl) : wpList P ops Q ({ dst := d, op := .binOp .eql T x y U, type := tt, pos := p, after := af, guard := gd } :: rest) a w :=
  wpList_ok hgd fun K hK => by
    have he : ((str l).toList == (str m).toList) = b := by rw [str_toList, str_toList, ← hb, Bool.beq_eq_decide_eq]
    have hn : wpList P ops Q rest (a.put d (.bool ((str l).toList == (str m).toList))) w := by rw [he]; exact next
    unfold Oper.wp execOp
    simp only [hx, hy, Sem.run_bind, Sem.run_pure]
    exact hK _ _ hn
theorem wps_sneq {l m : List UInt8} {T U : TypeId} {b : Bool} (hx : a.eval x = strV l) (hy : a.eval y = strV m) (hb : decide (l ≠ m) = b)
    (next : wpList P ops Q rest (a.put d (.bool b)) w) (hgd : gOk gd ops a = true := by with_unfolding_all rfl) : wpList P ops Q ({ dst := d, op := .binOp .neq T x y U, type := tt, pos := p, after := af, guard := gd } :: rest) a w :=
  wpList_ok hgd fun K hK => by
    have he : (!(str l).toList == (str m).toList) = b := by rw [str_toList, str_toList, ← hb, Bool.beq_eq_decide_eq]; simp
    have hn : wpList P ops Q rest (a.put d (.bool (!(str l).toList == (str m).toList))) w := by rw [he]; exact next
    unfold Oper.wp execOp
    simp only [hx, hy, Sem.run_bind, Sem.run_pure]
    exact hK _ _ hn
theorem wps_ssub {l : List UInt8} {T : TypeId} {k k' : IntKind} {i j : Nat} {lo hi : Operand} (hx : a.eval x = strV l) (hlo : a.eval lo = .int k i) (hhi : a.eval hi = .int k' j) (hT : P.underlying T = some .string) (h1 : i ≤ j) (h2 : j ≤ l.length)
    (next : wpList P ops Q rest (a.put d (strV ((l.drop i).take (j - i)))) w) (hgd : gOk gd ops a = true := by with_unfolding_all rfl) : wpList P ops Q ({ dst := d, op := .slice T x (some lo) (some hi) none, type := tt, pos := p, after := af, guard := gd } :: rest) a w :=
  wpList_ok hgd fun K hK => by
    have hr : (Instr.slice T (strV l) (some (.int k i)) (some (.int k' j)) none).run P w = .ok (strV ((l.drop i).take (j - i))) w := by
      show (Instr.slice T (.string (str l)) _ _ _).run P w = _
      rw [run_slice_string w T (str l) k k' i j hT (by omega) (by omega) (by rw [str_size]; omega)]
      unfold strV str
      rw [Int.toNat_natCast, Int.toNat_natCast, ByteArray.extract_mk]
    unfold Oper.wp execOp
    simp only [Option.map_some, Option.map_none, hx, hlo, hhi, run_sliceAt_string w T _ _ _ _ hT, hr, Sem.run_bind, Sem.run_pure, Result.andThen_ok]
    exact hK _ _ next
theorem wps_sfrom {l m : List UInt8} {T : TypeId} {k : IntKind} {i : Nat} {lo : Operand} (hx : a.eval x = strV l) (hlo : a.eval lo = .int k i) (hT : P.underlying T = some .string) (h1 : i ≤ l.length) (hm : l.drop i = m)
    (next : wpList P ops Q rest (a.put d (strV m)) w) (hgd : gOk gd ops a = true := by with_unfolding_all rfl) : wpList P ops Q ({ dst := d, op := .slice T x (some lo) none none, type := tt, pos := p, after := af, guard := gd } :: rest) a w :=
  wpList_ok hgd fun K hK => by
    subst hm
    have hr : (Instr.slice T (strV l) (some (.int k i)) none none).run P w = .ok (strV (l.drop i)) w := by
      show (Instr.slice T (.string (str l)) _ _ _).run P w = _
      rw [run_slice_string_l w T (str l) hT k i (by omega) (by rw [str_size]; omega)]
      unfold strV
      rw [Int.toNat_natCast, str_size]
      unfold str
      rw [ByteArray.extract_mk]
      congr 4
      rw [List.take_of_length_le (by simp)]
    unfold Oper.wp execOp
    simp only [Option.map_some, Option.map_none, hx, hlo, run_sliceAt_string w T _ _ _ _ hT, hr, Sem.run_bind, Sem.run_pure, Result.andThen_ok]
    exact hK _ _ next
end
end Go.Proofs.YtmjljoaakdocaaaGreatDoor.Mem
/- Several results, of which some lie in cells. Over any program. -/
namespace Go.Proofs.YtmjljoaakdocaaaGreatDoor.Mem
open Go Go.RowKit Reg

def ResV (P : Program) (w : World) (tmps : Array Value) : ResultVar → Value → Prop
  | .tmp t, v => tmps.getD t undef = v
  | .cell q t, v => ∃ b, tmps.getD q undef = .pointer (some ⟨b, 0, none⟩) ∧ (loadVar t ⟨b, 0, none⟩).run P w = .ok v w
section
variable {P : Program} {fn : Func} {tmps : Array Value} {G : Nat → Prop} {w0 w : World} {L : List Asn} {r1 r2 r3 : ResultVar} {v1 v2 v3 : Value}
theorem results2 (h : fn.results = #[r1, r2]) (h1 : ResV P w tmps r1 v1) (h2 : ResV P w tmps r2 v2) : (results fn tmps).run P w = .ok (.tuple #[v1, v2]) w := by
  cases r1 <;> cases r2 <;> simp only [ResV, Array.getD_eq_getD_getElem?] at h1 h2
  · simp [results, h, h1, h2]
  · obtain ⟨b2, p2, l2⟩ := h2; simp [results, h, h1, p2, asAddr, l2]
  · obtain ⟨b1, p1, l1⟩ := h1; simp [results, h, h2, p1, asAddr, l1]
  · obtain ⟨b1, p1, l1⟩ := h1; obtain ⟨b2, p2, l2⟩ := h2; simp [results, h, p1, p2, asAddr, l1, l2]
theorem results3 (h : fn.results = #[r1, r2, r3]) (h1 : ResV P w tmps r1 v1) (h2 : ResV P w tmps r2 v2) (h3 : ResV P w tmps r3 v3) : (results fn tmps).run P w = .ok (.tuple #[v1, v2, v3]) w := by
  cases r1 <;> cases r2 <;> cases r3 <;> simp only [ResV, Array.getD_eq_getD_getElem?] at h1 h2 h3
  · simp [results, h, h1, h2, h3]
  · obtain ⟨b3, p3, l3⟩ := h3; simp [results, h, h1, h2, p3, asAddr, l3]
  · obtain ⟨b2, p2, l2⟩ := h2; simp [results, h, h1, h3, p2, asAddr, l2]
  · obtain ⟨b2, p2, l2⟩ := h2; obtain ⟨b3, p3, l3⟩ := h3; simp [results, h, h1, p2, p3, asAddr, l2, l3]
  · obtain ⟨b1, p1, l1⟩ := h1; simp [results, h, h2, h3, p1, asAddr, l1]
  · obtain ⟨b1, p1, l1⟩ := h1; obtain ⟨b3, p3, l3⟩ := h3; simp [results, h, h2, p1, p3, asAddr, l1, l3]
  · obtain ⟨b1, p1, l1⟩ := h1; obtain ⟨b2, p2, l2⟩ := h2; simp [results, h, h3, p1, p2, asAddr, l1, l2]
  · obtain ⟨b1, p1, l1⟩ := h1; obtain ⟨b2, p2, l2⟩ := h2; obtain ⟨b3, p3, l3⟩ := h3; simp [results, h, p1, p2, p3, asAddr, l1, l2, l3]
theorem St.resA {sh : Bool} {b : Nat} {cs : Array Value} {t ty : TypeId} {q : Tmp} (S : St G w0 w L) (i : Nat) (hi : L[i]? = some (Blk sh b cs t)) (hp : tmps.getD q undef = .pointer (some ⟨b, 0, none⟩)) (hA : aggB P ty cs.size = true) : ResV P w tmps (.cell q ty) (.agg cs) := by
  refine ⟨b, hp, ?_⟩
  have hl := run_loadVar_agg (P := P) (t := ty) (b := b) (o := 0) (w := w) (vs := cs.toList) (by simpa using hA) (fun j u hj => by rw [Nat.zero_add, cell_of (S.blk i hi)]; simpa using hj)
  simpa using hl
theorem res_tmp {t : Tmp} {v : Value} (h : tmps.getD t undef = v) : ResV P w tmps (.tmp t) v := h
end
end Go.Proofs.YtmjljoaakdocaaaGreatDoor.Mem
/- The walks of the reference's split, fields, number (chapter 21). -/
namespace Go.Proofs.YtmjljoaakdocaaaGreatDoor
open Go Go.RowKit Reg Mem

set_option maxRecDepth 100000 in
theorem elem_Str : Elem Tryz.prog 174 9 1 16 := ⟨_, .string ⟨#[]⟩, Tryz.underlying174, rfl, by kernel_rfl, by kernel_rfl, by kernel_rfl, by kernel_rfl, by omega⟩
def SpRel (s : List UInt8) (c : UInt8) (w : World) (out now i : Value) (wr : World) : Prop :=
  ∃ (k : Nat) (l : List (List UInt8)) (q : List UInt8), k ≤ s.length ∧ i = .int .i64 k ∧ now = strV q ∧ Hid (q.length ≤ k) ∧ Hid (l.length ≤ k) ∧ Hid (l ++ splitGo c q (s.drop k) = splitGo c [] s) ∧ St (fun _ => False) w wr [Own 9 strcell 1 out l]
def WdRel (s : List UInt8) (w : World) (out now i : Value) (wr : World) : Prop :=
  ∃ (k : Nat) (l : List (List UInt8)) (q : List UInt8), k ≤ s.length ∧ i = .int .i64 k ∧ now = strV q ∧ Hid (q.length ≤ k) ∧ Hid (l.length ≤ k) ∧ Hid (l ++ wordsGo q (s.drop k) = wordsGo [] s) ∧ St (fun _ => False) w wr [Own 9 strcell 1 out l]
theorem u8_is (b : UInt8) (n : Nat) (hn : n < 256) : ((b.toNat : Int) == (n : Int)) = (b == UInt8.ofNat n) := by
  rw [Bool.eq_iff_iff, beq_iff_eq, beq_iff_eq]
  constructor
  · intro e; apply UInt8.toNat_inj.1; rw [UInt8.toNat_ofNat']; omega
  · intro e; subst e; rw [UInt8.toNat_ofNat']; omega
def rnumE (l : List UInt8) : Int := if (numE l).2 = 15 then -1 else if (numE l).2 = 10 then 9999 else (numE l).1
end Go.Proofs.YtmjljoaakdocaaaGreatDoor
/- Operations on bytes and runes of strings as laws: append(bytes, s..), copy(bytes, s), unsafe.String, a range over a string. Over any program. -/
namespace Go.Proofs.YtmjljoaakdocaaaGreatDoor
open Go
def bcell (b : UInt8) : List Value := [.int .u8 b.toNat]
theorem bcells : ∀ x, (bcell x).length = 1 := fun _ => rfl
end Go.Proofs.YtmjljoaakdocaaaGreatDoor
namespace Go.Proofs.YtmjljoaakdocaaaGreatDoor.Mem
open Go Go.RowKit Reg

/-! ### What an operation draws -/
theorem ask_drawn {α : Type} : ∀ (x : Ask α) (w : World), w.drawn ≤ (w.ask x).2.drawn
  | .done a, w => Nat.le_refl _
  | .ask what range k, w => by
    unfold World.ask
    simp only
    split
    · exact ask_drawn _ w
    · exact Nat.le_trans (Nat.le_succ _) (ask_drawn (k _) { w with drawn := w.drawn + 1 })
theorem sys_drawn (w : World) (c : Sys) : w.drawn ≤ (w.sys c).2.drawn := by
  have h := ask_drawn (Kernel.perform c w.os) w
  unfold World.sys
  split
  · exact Nat.le_refl _
  · rename_i e; rw [e] at h; exact h
theorem view_drawn {P : Program} {w w' : World} {at_ k : Addr} {u : TypeId} {v : Value} {b : Bool} {l : List Addr} (h : w.viewStore P at_ u k v b = .ok (w', l)) : w'.drawn = w.drawn := by
  unfold World.viewStore at h
  simp only [bind, Except.bind, pure, Except.pure] at h
  repeat' split at h
  all_goals first | cases h; rfl | cases h
theorem far_drawn {P : Program} {w w' : World} {a : Addr} {v : Value} {b : Bool} {l : List Addr} (h : w.farStore P a v b = .ok (w', l)) : w'.drawn = w.drawn := by
  unfold World.farStore at h
  repeat' split at h
  all_goals first | (rename_i e; cases h; exact view_drawn e) | cases h
theorem run_drawn {P : Program} {α : Type} : ∀ (x : Sem α) (w : World) {v : α} {w' : World}, x.run P w = .ok v w' → w.drawn ≤ w'.drawn
  | .pure a, w, v, w', h => by simp only [Sem.run, Result.ok.injEq] at h; rw [h.2]; exact Nat.le_refl _
  | .load m a k, w, v, w', h => by
    unfold Sem.run at h
    split at h
    · exact run_drawn _ w h
    · split at h
      · exact run_drawn _ w h
      · cases h
  | .store m a x k, w, v, w', h => by
    have key : ∀ (r : Result α), (match w.cell? a with
        | some _ => if w.frozen? a then Result.halt (.unsupported (.unsafePointer "a write to bytes that a string shares")) w else k.run P (w.setCell a x)
        | none => match w.farStore P a x (m == .atomic) with
          | .ok (w1, _) => k.run P w1
          | .error e => .halt e w) = r → r = .ok v w' → w.drawn ≤ w'.drawn := by
      intro r hr he
      subst hr
      split at he
      · split at he
        · cases he
        · exact run_drawn k (w.setCell _ _) he
      · split at he
        · rename_i w1 l e
          have := run_drawn k w1 he
          rw [far_drawn e] at this
          exact this
        · cases he
    cases x with
    | agg _ => simp [Sem.run] at h
    | tuple _ => simp [Sem.run] at h
    | _ => simp only [Sem.run] at h; exact key _ rfl h
  | .new o k, w, v, w', h => by unfold Sem.run at h; exact run_drawn _ { w with heap := w.heap.push o } h
  | .shape r k, w, v, w', h => by unfold Sem.run at h; exact run_drawn _ w h
  | .freeze a n k, w, v, w', h => by
    unfold Sem.run at h
    have := run_drawn k (w.freeze a n) h
    have e : (w.freeze a n).drawn = w.drawn := by unfold World.freeze; split <;> rfl
    rw [e] at this; exact this
  | .frozen a k, w, v, w', h => by unfold Sem.run at h; exact run_drawn _ w h
  | .getObj r k, w, v, w', h => by
    unfold Sem.run at h
    split at h
    · cases h
    · exact run_drawn _ w h
    · cases h
  | .setObj r o k, w, v, w', h => by
    unfold Sem.run at h
    split at h
    · cases h
    · exact run_drawn k { w with heap := w.heap.setIfInBounds r o } h
    · cases h
  | .choose q k, w, v, w', h => by
    unfold Sem.run at h
    split at h
    · exact run_drawn _ w h
    · exact Nat.le_trans (Nat.le_succ _) (run_drawn _ { w with drawn := w.drawn + 1 } h)
  | .sys c k, w, v, w', h => by unfold Sem.run at h; exact Nat.le_trans (sys_drawn w c) (run_drawn _ _ h)
  | .program k, w, v, w', h => by unfold Sem.run at h; exact run_drawn _ w h
  | .mark m k, w, v, w', h => by unfold Sem.run at h; exact run_drawn _ w h
  | .halt hh, w, v, w', h => by simp [Sem.run] at h

section
variable {P : Program} {ops : Array Oper} {rest : List Oper} {a : Act} {Q : Exit → Act → World → Prop} {d : Option Tmp} {tt : TypeId} {p : String} {af : Array Edge} {gd : Option (Nat × Bool)} {x y : Operand}
variable {G : Nat → Prop} {w0 w w' : World} {L : List Asn} {A A' : Asn} {i : Nat}

theorem flat_bytes (l : List UInt8) : flatE bcell l = Lib.byteCells l := by
  induction l with
  | nil => rfl
  | cons b l ih => rw [flatE_cons, ih]; rfl
structure ByteOf (P : Program) (T E : TypeId) : Prop where
  und : P.underlying T = some (.slice E)
  elem : P.underlying E = some (.int .u8)
  info : ∃ i, P.info? E = some i ∧ i.zero = some (.int .u8 0) ∧ i.size = 1 ∧ i.bytes = 1
theorem wps_copystr {T U E : TypeId} {R c n : Nat} {l : List UInt8} (B : ByteOf P T E) (hln : l.length = n) (S : St G w0 w L) (i : Nat) (hi : L[i]? = some (Own E bcell 1 (.slice (some ⟨R, 0, none⟩) n c) l)) (m : List UInt8) (hm : m.length = n) (hx : a.eval x = .slice (some ⟨R, 0, none⟩) n c) (hy : a.eval y = strV m)
    (next : ∀ w', St G w0 w' (L.set i (Own E bcell 1 (.slice (some ⟨R, 0, none⟩) n c) m)) → wpList P ops Q rest (a.put d (.int .i64 m.length)) w') (hgd : gOk gd ops a = true := by with_unfolding_all rfl) :
    wpList P ops Q ({ dst := d, op := .call { callee := .builtin .copy, args := #[x, y], argTypes := #[T, U] }, type := tt, pos := p, after := af, guard := gd } :: rest) a w := by
  subst hln
  obtain ⟨F0, h0, hF0⟩ := S.get hi
  obtain ⟨ti, hti, hz, hs1, hb1⟩ := B.info
  rcases h0.2 with ⟨e, _⟩ | ⟨g, cap, cur, e, hbg, hg, hnc, hcm, hcs, htake⟩
  · cases e
  · simp only [Value.slice.injEq, Option.some.injEq, Addr.mk.injEq] at e
    obtain ⟨⟨rfl, _⟩, _, rfl⟩ := e
    have hsz := str_size m
    have hr := Lib.run_copy_row_string (P := P) w T U tt E R 0 l.length c (str m) cur E B.und (by rw [hti]; simp [hs1]) hg (by omega) (by rw [hsz]; omega)
    rw [str_data, hsz] at hr
    have hown : Owns E bcell 1 0 (w.setRow R (cur.toList.take 0 ++ Lib.byteCells m ++ cur.toList.drop (0 + m.length)).toArray) (.slice (some ⟨R, 0, none⟩) l.length c) m := by
      refine ⟨flatE_length bcells m, .inr ⟨R, c, _, by rw [hm], Nat.zero_le _, setRow_heap w R cur _ E _ hg, by omega, hcm, ?_, ?_⟩⟩
      · simp only [List.size_toArray, List.length_append, List.length_take, List.length_drop, Array.length_toList, Lib.byteCells_length]; omega
      · simp only [List.take_zero, List.nil_append, Nat.mul_one]
        rw [flat_bytes, show m.length = (Lib.byteCells m).length from (Lib.byteCells_length m).symm]
        exact List.take_left
    have hK : Keep (fun b => b = R) w (w.setRow R (cur.toList.take 0 ++ Lib.byteCells m ++ cur.toList.drop (0 + m.length)).toArray) :=
      ⟨rfl, rfl, rfl, by simp, fun b _ hb => setRow_other w R b _ hb, Nat.le_refl _⟩
    have S' := S.step (A' := Own E bcell 1 (.slice (some ⟨R, 0, none⟩) l.length c) m) hi rfl fun F hF => ⟨F, hK.mono (fun x _ h e => h ((hF.2 x).2 (by simp [Value.ownBlock, e]))), ⟨hown, hF.2⟩, fun b hb => .inl hb⟩
    refine wpList_ok hgd fun _ hK' => ?_
    unfold Oper.wp execOp
    have hr2 : (Builtin.copy_ #[T, U] tt #[.slice (some ⟨R, 0, none⟩) l.length c, strV m]).run P w = .ok (.int .i64 m.length) (w.setRow R (cur.toList.take 0 ++ Lib.byteCells m ++ cur.toList.drop (0 + m.length)).toArray) := hr
    simp only [resolve, invoke, builtin, Sem.run_bind, Sem.run_pure, Result.andThen_ok, List.map_toArray, List.map_cons, List.map_nil, hx, hy, hr2]
    exact hK' _ _ (next _ S')
theorem wps_unsafestr {PT IT E : TypeId} {R c : Nat} {l : List UInt8} (hp : P.underlying PT = some (.pointer E)) (hc : P.cellsOf E = 1) (S : St G w0 w (Own E bcell 1 (.slice (some ⟨R, 0, none⟩) l.length c) l :: L)) (h0 : l ≠ [])
    (hx : a.eval x = .pointer (some ⟨R, 0, none⟩)) (hy : a.eval y = .int .i64 l.length) (hn : l.length ≤ 9223372036854775807)
    (next : ∀ w', St G w0 w' L → wpList P ops Q rest (a.put d (strV l)) w') (hgd : gOk gd ops a = true := by with_unfolding_all rfl) :
    wpList P ops Q ({ dst := d, op := .call { callee := .builtin .unsafeString, args := #[x, y], argTypes := #[PT, IT] }, type := tt, pos := p, after := af, guard := gd } :: rest) a w := by
  obtain ⟨Fs, hf, hd⟩ := S.ex
  obtain ⟨⟨hO, hF⟩, hnew⟩ := hf 0 _ rfl
  rcases hO.2 with ⟨e, _⟩ | ⟨g, cap, cur, e, hbg, hg, hnc, hcm, hcs, htake⟩
  · cases e
  · simp only [Value.slice.injEq, Option.some.injEq, Addr.mk.injEq] at e
    obtain ⟨⟨rfl, _⟩, _, rfl⟩ := e
    have hsh : w.shape? R = some (E, cur.size) := by simp [World.shape?, hg]
    have hcells := World.ownsRow.cells (show w.ownsRow 0 E 1 _ _ _ from hO) (g := R) rfl
    have hr := Lib.run_unsafeString_row (P := P) w PT IT tt E hp hc R cur.size hsh l h0 (by rw [hcs]; omega) hn (fun j x hj => hcells j _ (by rw [flat_bytes]; simp [Lib.byteCells, hj]))
    have hblk : ∀ b, b ≠ R → (w.freeze ⟨R, 0, none⟩ l.length).heap[b]? = w.heap[b]? := fun b hb => by
      unfold World.freeze
      split
      · rfl
      · simp only [Array.getElem?_modify]; rw [if_neg (fun e => hb e.symm)]
    have hK : Keep (fun b => b = R) w (w.freeze ⟨R, 0, none⟩ l.length) := by
      refine ⟨?_, ?_, ?_, ?_, fun b _ hb => hblk b hb, run_drawn _ _ hr⟩
      all_goals (unfold World.freeze; split <;> first | rfl | simp)
    have hRF : Fs 0 R := (hF R).2 rfl
    have hRn := hnew rfl R hRF
    have S' : St G w0 (w.freeze ⟨R, 0, none⟩ l.length) L := by
      refine ⟨S.keep.trans hK (fun x hx hn => ⟨hn, fun e => ?_⟩), fun j => Fs (j + 1), fun j B hj => ⟨B.loc (hf (j + 1) B hj).1 (fun b hb => hblk b fun e => ?_), (hf (j + 1) B hj).2⟩, fun j k B C hjk hj hk => hd (j + 1) (k + 1) B C (by omega) hj hk⟩
      · subst e; rcases hRn with h | h
        · exact hn h
        · omega
      · subst e
        rcases hd 0 (j + 1) _ B (by omega) rfl hj with ⟨e1, _⟩ | e1
        · cases e1
        · exact e1 b hRF hb
    refine wpList_ok hgd fun _ hK' => ?_
    unfold Oper.wp execOp
    simp only [resolve, invoke, builtin, Sem.run_bind, Sem.run_pure, Result.andThen_ok, List.map_toArray, List.map_cons, List.map_nil, hx, hy, hr]
    exact hK' _ _ (next _ S')
/-! ### A range over a string -/
def IterA (b : Nat) (s : ByteArray) (pos : Nat) : Asn where
  sh := false
  at_ w F := w.heap[b]? = some (.stringIter s pos) ∧ ∀ x, F x ↔ x = b
  loc h hb := ⟨(hb b ((h.2 b).2 rfl)).trans h.1, h.2⟩
  lt h b hb := by rw [(h.2 b).1 hb]; exact (Array.getElem?_eq_some_iff.1 h.1).1
theorem wps_rangestr {T : TypeId} {s : ByteArray} (hT : P.underlying T = some .string) (S : St G w0 w L) (hx : a.eval x = .string s)
    (next : ∀ b w', St G w0 w' (IterA b s 0 :: L) → wpList P ops Q rest (a.put d (.pointer (some ⟨b, 0, none⟩))) w') (hgd : gOk gd ops a = true := by with_unfolding_all rfl) :
    wpList P ops Q ({ dst := d, op := .range T x, type := tt, pos := p, after := af, guard := gd } :: rest) a w :=
  wpList_ok hgd fun K hK => by
    have hr := run_range_string (P := P) w T s hT
    unfold Oper.wp execOp
    simp only [hx, hr, Sem.run_bind, Sem.run_pure, Result.andThen_ok]
    refine hK _ _ (next _ _ (S.grow (F := fun x => x = w.heap.size) (keep_alloc w _) ⟨World.iter_heap w s 0, fun _ => Iff.rfl⟩ (fun _ e => Nat.le_of_eq e.symm)))
theorem wps_next {s : ByteArray} {b pos : Nat} (S : St G w0 w L) (i : Nat) (hi : L[i]? = some (IterA b s pos)) (h : pos < s.size) (hx : a.eval x = .pointer (some ⟨b, 0, none⟩))
    (next : ∀ w', St G w0 w' (L.set i (IterA b s (pos + (Utf8.decode s pos).2))) → wpList P ops Q rest (a.put d (.tuple #[.bool true, .int .i64 pos, .int .i32 (Utf8.decode s pos).1])) w') (hgd : gOk gd ops a = true := by with_unfolding_all rfl) :
    wpList P ops Q ({ dst := d, op := .next x true, type := tt, pos := p, after := af, guard := gd } :: rest) a w := by
  obtain ⟨F0, h0, hF0⟩ := S.get hi
  have hlt := (Array.getElem?_eq_some_iff.1 h0).1
  have hr : (Instr.next (.pointer (some ⟨b, 0, none⟩)) true tt).run P w = .ok (.tuple #[.bool true, .int .i64 pos, .int .i32 (Utf8.decode s pos).1]) { w with heap := w.heap.setIfInBounds b (.stringIter s (pos + (Utf8.decode s pos).2)) } := by
    simp only [Instr.next, getObj, setObj, Sem.run_bind, Sem.run, h0, Result.andThen, h, if_true]
    simp [goInt]
  have hK : Keep (fun x => x = b) w { w with heap := w.heap.setIfInBounds b (.stringIter s (pos + (Utf8.decode s pos).2)) } :=
    ⟨rfl, rfl, rfl, by simp, fun x _ hx => by simp only; rw [Array.getElem?_setIfInBounds_ne (Ne.symm hx)], Nat.le_refl _⟩
  have S' := S.step (A' := IterA b s (pos + (Utf8.decode s pos).2)) hi rfl fun F hF => ⟨F, hK.mono (fun x _ h e => h ((hF.2 x).2 e)), ⟨by simp only; rw [Array.getElem?_setIfInBounds_self_of_lt hlt], hF.2⟩, fun _ h => .inl h⟩
  refine wpList_ok hgd fun K hK' => ?_
  unfold Oper.wp execOp
  simp only [hx, hr, Sem.run_bind, Sem.run_pure, Result.andThen_ok]
  exact hK' _ _ (next _ S')
theorem wps_nextend {s : ByteArray} {b pos : Nat} (S : St G w0 w L) (i : Nat) (hi : L[i]? = some (IterA b s pos)) (h : ¬ pos < s.size) (hx : a.eval x = .pointer (some ⟨b, 0, none⟩))
    (next : wpList P ops Q rest (a.put d (.tuple #[.bool false])) w) (hgd : gOk gd ops a = true := by with_unfolding_all rfl) :
    wpList P ops Q ({ dst := d, op := .next x true, type := tt, pos := p, after := af, guard := gd } :: rest) a w := by
  obtain ⟨F0, h0, hF0⟩ := S.get hi
  have hr : (Instr.next (.pointer (some ⟨b, 0, none⟩)) true tt).run P w = .ok (.tuple #[.bool false]) w := by
    simp [Instr.next, getObj, Sem.run, h0, h]
  refine wpList_ok hgd fun K hK' => ?_
  unfold Oper.wp execOp
  simp only [hx, hr, Sem.run_bind, Sem.run_pure, Result.andThen_ok]
  exact hK' _ _ next
theorem wps_makecap {α : Type} {enc : α → List Value} {k : Nat} {T E : TypeId} (hT : P.underlying T = some (.slice E)) (x0 : α) (hz : zeroIs P E k (enc x0)) (S : St G w0 w L) (n : Nat) (hx : a.eval x = .int .i64 0) (hy : a.eval y = .int .i64 n) (hn : n ≤ 4294967296)
    (next : ∀ b w', St G w0 w' (Own E enc k (.slice (some ⟨b, 0, none⟩) 0 n) [] :: L) → wpList P ops Q rest (a.put d (.slice (some ⟨b, 0, none⟩) 0 n)) w') (hgd : gOk gd ops a = true := by with_unfolding_all rfl) :
    wpList P ops Q ({ dst := d, op := .makeSlice T x y, type := tt, pos := p, after := af, guard := gd } :: rest) a w :=
  wpList_ok hgd fun K hK => by
    obtain ⟨i, z, h1, h2, h3, h4, h5⟩ := hz
    have hb : i.bytes * n ≤ 32768 * 4294967296 := Nat.mul_le_mul h5 hn
    have hb' : (i.bytes : Int) * (n : Int) ≤ 281474976710656 := by
      have : ((i.bytes * n : Nat) : Int) ≤ 281474976710656 := by omega
      rwa [Int.natCast_mul] at this
    have hr := run_make (P := P) w T E i z hT h1 h2 .i64 .i64 0 n (by omega) (by omega) hb' (by omega)
    simp only [Int.toNat_natCast, Int.toNat_zero] at hr
    unfold Oper.wp execOp
    simp only [hx, hy, hr, Sem.run_bind, Sem.run_pure, Result.andThen_ok]
    refine hK _ _ (next _ _ (S.grow (F := fun x => x = w.heap.size) (keep_alloc w _) ⟨?_, fun x => by simp [Value.ownBlock, eq_comm]⟩ (fun _ e => Nat.le_of_eq e.symm)))
    refine ⟨by simp [flatE], .inr ⟨w.heap.size, n, madeCells z.cells (n * i.size), by simp, Nat.zero_le _, heap_alloc_new w _, by simp, by simp [maxLen]; omega, by rw [size_madeCells, h3], by simp [flatE]⟩⟩
end
end Go.Proofs.YtmjljoaakdocaaaGreatDoor.Mem
/- The walks of the library's Clone, rangeError, toError, Atoi. -/
namespace Go.Proofs.YtmjljoaakdocaaaGreatDoor
open Go Go.RowKit Reg Mem

set_option maxRecDepth 100000 in
theorem byteOf : ByteOf Tryz.prog 400 5 := ⟨Tryz.underlying400, Tryz.underlying5, ⟨_, rfl, by kernel_rfl, by kernel_rfl, by kernel_rfl⟩⟩
set_option maxRecDepth 100000 in
theorem zero_Byte : zeroIs Tryz.prog 5 1 (bcell 0) := ⟨_, .int .u8 0, rfl, by kernel_rfl, by kernel_rfl, rfl, by decide⟩
structure LibVars (tE : TypeId) (pE : Value) (w : World) : Prop where
  size : 10 ≤ w.heap.size
  maxLen : ∃ m, w.cell? ⟨2, 0, none⟩ = some (.int .i64 m)
  range : w.cell? ⟨6, 0, none⟩ = some (.iface tE pE)
  pow : Lib.TabIs Tryz.prog w "internal/strconv.uint64pow10" .u64 Lib.pow10Tab
theorem gPow : Tryz.prog.globalNamed "internal/strconv.uint64pow10" = some 7 := by kernel_rfl
def LibA (tE : TypeId) (pE : Value) : Asn where
  sh := true
  at_ w F := LibVars tE pE w ∧ ∀ b, F b ↔ b < 10
  loc {w w' F} h hb := by
    refine ⟨?_, h.2⟩
    have h8 := hb 9 ((h.2 9).2 (by omega))
    have hs : 9 < w'.heap.size := by
      have hh : 9 < w.heap.size := by have := h.1.size; omega
      rw [Array.getElem?_eq_getElem hh] at h8
      exact (Array.getElem?_eq_some_iff.1 h8).1
    have hq : ∀ b, b < 10 → w'.heap[b]? = w.heap[b]? := fun b hb9 => hb b ((h.2 b).2 hb9)
    have h0 := h.1
    refine ⟨by omega, ?_, ?_, ?_⟩
    · obtain ⟨m, hm⟩ := h0.maxLen
      exact ⟨m, (World.cell?_of_block (w := w) (a := ⟨2, 0, none⟩) (hq 2 (by omega))).trans hm⟩
    · exact (World.cell?_of_block (w := w) (a := ⟨6, 0, none⟩) (hq 6 (by omega))).trans h0.range
    · have h4 := h0.pow
      unfold Lib.TabIs at *
      rw [← h4]
      simp only [World.var?, gPow, Option.bind_some, hq 7 (by omega)]
  lt h b hb := by have := (h.2 b).1 hb; have := h.1.size; omega
set_option maxRecDepth 100000 in
set_option maxHeartbeats 4000000 in
theorem clone_calls (l : List UInt8) (w : World) (hn : l.length ≤ 4294967296) : Calls Tryz.prog 302 #[strV l] w fun e w' => e = .returned (strV l) ∧ Below w.heap.size w w' := by
  have S := St.init (fun _ => False) w
  by_cases h0 : l = []
  · subst h0
    go_enter Tryz.func302, Tryz.ntmps302
    go_wp2_with first | ((with_reducible apply wps_slen (T := 9)); (case hx => rfl); (case hT => exact Tryz.underlying9)) | ((with_reducible refine tot_done ?ht ?_); (case ht => kernel_rfl))
    go_ret
    exact ⟨rfl, S.below⟩
  · have hl : 0 < l.length := List.length_pos_iff.2 h0
    have h1 : ((l.length : Int) == 0) = false := by rw [beq_eq_false_iff_ne]; omega
    have H0 := Lib.hid h0
    clear h0
    go_enter Tryz.func302, Tryz.ntmps302
    go_wp2_with first | ((with_reducible apply wps_slen (T := 9)); (case hx => rfl); (case hT => exact Tryz.underlying9)) | ((with_reducible apply wps_make bcells Tryz.underlying400 _ zero_Byte S (n := l.length)); (case hx | hy => rfl); (case hn => omega); clear S; intro bz wz S) | ((with_reducible apply wps_copystr byteOf List.length_replicate S 0); (case hi | hx | hy | hm => rfl); clear S; intro wz S; simp only [List.set_cons_zero] at S) | ((with_reducible apply wps_unsafestr (l := l) (PT := 435) (E := 5) Tryz.underlying435 (by kernel_rfl) S H0.out); (case hx | hy => rfl); (case hn => omega); clear S; intro wz S) | ((with_reducible refine tot_done ?ht ?_); (case ht => kernel_rfl))
    go_ret
    exact ⟨rfl, S.below⟩
end Go.Proofs.YtmjljoaakdocaaaGreatDoor
namespace Go.Proofs.YtmjljoaakdocaaaGreatDoor.Mem
open Go Go.RowKit Reg
section
variable {ops : Array Oper} {rest : List Oper} {a : Act} {Q : Exit → Act → World → Prop} {d : Option Tmp} {tt : TypeId} {p : String} {af : Array Edge} {gd : Option (Nat × Bool)} {x y : Operand}
variable {G : Nat → Prop} {w0 w : World} {L : List Asn}
theorem wps_loadlib {tE : TypeId} {pE : Value} (S : St G w0 w L) (i : Nat) (hi : L[i]? = some (LibA tE pE)) {T : TypeId} (hx : a.eval x = .pointer (some ⟨6, 0, none⟩)) (hT : leafB Tryz.prog T = true)
    (next : wpList Tryz.prog ops Q rest (a.put d (.iface tE pE)) w) (hgd : gOk gd ops a = true := by with_unfolding_all rfl) : wpList Tryz.prog ops Q ({ dst := d, op := .load T x, type := tt, pos := p, after := af, guard := gd } :: rest) a w :=
  wpList_ok hgd fun K hK => by
    obtain ⟨F, hF⟩ := S.get hi
    unfold Oper.wp execOp
    simp only [Instr.loadAt, hx, Instr.sureAddr, Sem.run_bind, Sem.run_pure, Result.andThen_ok, run_load_leaf hT hF.1.range]
    exact hK _ _ next
end
end Go.Proofs.YtmjljoaakdocaaaGreatDoor.Mem
namespace Go.Proofs.YtmjljoaakdocaaaGreatDoor
open Go Go.RowKit Reg Mem
set_option maxRecDepth 100000 in
set_option maxHeartbeats 4000000 in
theorem ranger_calls (tE : TypeId) (pE : Value) (f l : List UInt8) (w : World) (F : Nat → Prop) (h : (LibA tE pE).at_ w F) (hn : l.length ≤ 4294967296) : Calls Tryz.prog 282 #[strV f, strV l] w fun e w' => ∃ N, e = .returned (.pointer (some ⟨N, 0, none⟩)) ∧ Below w.heap.size w w' := by
  have S : St (fun _ => False) w w [LibA tE pE] := (St.init _ w).share rfl rfl h
  clear h
  have HC : Hid (∀ w : World, Calls Tryz.prog 302 #[.string (str l)] w fun e w' => e = .returned (.string (str l)) ∧ Below w.heap.size w w') := Lib.hid fun w => clone_calls l w hn
  show Calls Tryz.prog 282 #[.string (str f), .string (str l)] w _
  generalize str l = sl at HC ⊢
  generalize str f = sf
  go_enter Tryz.func282, Tryz.ntmps282
  go_upto_region 1 with first | ((with_reducible refine tot_done ?ht ?_); (case ht => kernel_rfl)) | ((with_reducible apply wps_text S); (case hm => kernel_rfl); (case hB => decide +kernel); clear S; intro wz S) | ((with_reducible apply wps_boxa S); (case hx => rfl); clear S; intro bz wz S) | ((with_reducible apply wps_box1 (v := .int _ _) S); (case hx | h1 => rfl); clear S; intro bz wz S) | ((with_reducible apply wps_box1 (v := .bool _) S); (case hx | h1 => rfl); clear S; intro bz wz S) | ((with_reducible apply wps_box1 (v := .slice _ _ _) S); (case hx | h1 => rfl); clear S; intro bz wz S) | ((with_reducible apply wps_box1 (v := .pointer _) S); (case hx | h1 => rfl); clear S; intro bz wz S) | ((with_reducible apply wps_box1 (v := .map _) S); (case hx | h1 => rfl); clear S; intro bz wz S) | ((with_reducible apply wps_box1 (v := .string _) S); (case hx | h1 => rfl); clear S; intro bz wz S) | ((with_reducible apply wps_box1 (v := .func _ _ _) S); (case hx | h1 => rfl); clear S; intro bz wz S) | ((with_reducible apply wps_load S 0); (case hx | hi | hu => rfl); (case hT => decide +kernel))
  (refine wp_region_w (soft := [0, 1, 2, 3, 4]) S ?hm ?hB ?_); (case hm => kernel_rfl); (case hB => decide +kernel); clear S
  iterate 5
    (with_reducible apply softs_cons)
    (case hw =>
      (with_reducible apply soft_of); (case hi => rfl)
      intro T wz S
      simp only [List.cons_append, List.nil_append] at S
      go_wp2_with first | (go_at_call 302; refine Calls.mono (HC.out _) ?_; rintro e wz ⟨rfl, hE⟩; replace S := S.ext (Keep.of_below hE); clear hE) | ((with_reducible apply wps_loadlib S 0); (case hi | hx => rfl); (case hT => decide +kernel)) | ((with_reducible apply wps_boxa (E := 426) S); (case hx => rfl); clear S; intro bN wz S) | ((with_reducible refine tot_done ?ht ?_); (case ht => kernel_rfl)) | ((with_reducible apply wps_boxa S); (case hx => rfl); clear S; intro bz wz S) | ((with_reducible apply wps_box1 (v := .int _ _) S); (case hx | h1 => rfl); clear S; intro bz wz S) | ((with_reducible apply wps_box1 (v := .bool _) S); (case hx | h1 => rfl); clear S; intro bz wz S) | ((with_reducible apply wps_box1 (v := .slice _ _ _) S); (case hx | h1 => rfl); clear S; intro bz wz S) | ((with_reducible apply wps_box1 (v := .pointer _) S); (case hx | h1 => rfl); clear S; intro bz wz S) | ((with_reducible apply wps_box1 (v := .map _) S); (case hx | h1 => rfl); clear S; intro bz wz S) | ((with_reducible apply wps_box1 (v := .string _) S); (case hx | h1 => rfl); clear S; intro bz wz S) | ((with_reducible apply wps_box1 (v := .func _ _ _) S); (case hx | h1 => rfl); clear S; intro bz wz S) | ((with_reducible apply wps_load S 0); (case hx | hi | hu => rfl); (case hT => decide +kernel))
      exact ⟨rfl, S⟩)
    (case hs => exact ⟨_, rfl, by kernel_rfl⟩)
  refine softs_nil ?_
  (with_reducible apply W_hard1 (i := 5)); (case hn => rfl); (case hr => decide +kernel)
  intro wz S
  (with_reducible apply hard_of); (case hi => rfl)
  simp only [List.cons_append, List.nil_append] at S
  go_wp2_with first | (go_at_call 302; refine Calls.mono (HC.out _) ?_; rintro e wz ⟨rfl, hE⟩; replace S := S.ext (Keep.of_below hE); clear hE) | ((with_reducible apply wps_loadlib S 0); (case hi | hx => rfl); (case hT => decide +kernel)) | ((with_reducible apply wps_boxa (E := 426) S); (case hx => rfl); clear S; intro bN wz S) | ((with_reducible refine tot_done ?ht ?_); (case ht => kernel_rfl)) | ((with_reducible apply wps_boxa S); (case hx => rfl); clear S; intro bz wz S) | ((with_reducible apply wps_box1 (v := .int _ _) S); (case hx | h1 => rfl); clear S; intro bz wz S) | ((with_reducible apply wps_box1 (v := .bool _) S); (case hx | h1 => rfl); clear S; intro bz wz S) | ((with_reducible apply wps_box1 (v := .slice _ _ _) S); (case hx | h1 => rfl); clear S; intro bz wz S) | ((with_reducible apply wps_box1 (v := .pointer _) S); (case hx | h1 => rfl); clear S; intro bz wz S) | ((with_reducible apply wps_box1 (v := .map _) S); (case hx | h1 => rfl); clear S; intro bz wz S) | ((with_reducible apply wps_box1 (v := .string _) S); (case hx | h1 => rfl); clear S; intro bz wz S) | ((with_reducible apply wps_box1 (v := .func _ _ _) S); (case hx | h1 => rfl); clear S; intro bz wz S) | ((with_reducible apply wps_load S 0); (case hx | hi | hu => rfl); (case hT => decide +kernel))
  refine ⟨_, S.pick [1, 0] rfl, ?_⟩
  clear S
  (refine W_mid (f := 0) (soft := [6]) rfl ?hB ?_); (case hB => decide +kernel)
  iterate 1
    (with_reducible apply softs_cons)
    (case hw =>
      (with_reducible apply soft_of); (case hi => rfl)
      intro T wz S
      simp only [List.cons_append, List.nil_append] at S
      go_wp2_with first | (go_at_call 302; refine Calls.mono (HC.out _) ?_; rintro e wz ⟨rfl, hE⟩; replace S := S.ext (Keep.of_below hE); clear hE) | ((with_reducible apply wps_loadlib S 0); (case hi | hx => rfl); (case hT => decide +kernel)) | ((with_reducible apply wps_boxa (E := 426) S); (case hx => rfl); clear S; intro bN wz S) | ((with_reducible refine tot_done ?ht ?_); (case ht => kernel_rfl)) | ((with_reducible apply wps_boxa S); (case hx => rfl); clear S; intro bz wz S) | ((with_reducible apply wps_box1 (v := .int _ _) S); (case hx | h1 => rfl); clear S; intro bz wz S) | ((with_reducible apply wps_box1 (v := .bool _) S); (case hx | h1 => rfl); clear S; intro bz wz S) | ((with_reducible apply wps_box1 (v := .slice _ _ _) S); (case hx | h1 => rfl); clear S; intro bz wz S) | ((with_reducible apply wps_box1 (v := .pointer _) S); (case hx | h1 => rfl); clear S; intro bz wz S) | ((with_reducible apply wps_box1 (v := .map _) S); (case hx | h1 => rfl); clear S; intro bz wz S) | ((with_reducible apply wps_box1 (v := .string _) S); (case hx | h1 => rfl); clear S; intro bz wz S) | ((with_reducible apply wps_box1 (v := .func _ _ _) S); (case hx | h1 => rfl); clear S; intro bz wz S) | ((with_reducible apply wps_load S 0); (case hx | hi | hu => rfl); (case hT => decide +kernel))
      exact ⟨rfl, S⟩)
    (case hs => exact ⟨_, rfl, by kernel_rfl⟩)
  refine softs_nil ?_
  (with_reducible apply W_done); (case hn => rfl); (case hr => decide +kernel)
  intro wz S
  repeat (first | simp only at S | simp only [pick] at S | simp only [nth] at S | simp only [List.set_cons_succ] at S | simp only [List.set_cons_zero] at S | simp only [List.setIfInBounds_toArray] at S | simp only [setAll] at S | simp only [List.cons_append] at S | simp only [List.nil_append] at S | simp only [List.append_nil] at S)
  go_wp2_with first | ((with_reducible refine tot_done ?ht ?_); (case ht => kernel_rfl)) | ((with_reducible apply wps_text S); (case hm => kernel_rfl); (case hB => decide +kernel); clear S; intro wz S) | ((with_reducible apply wps_boxa S); (case hx => rfl); clear S; intro bz wz S) | ((with_reducible apply wps_box1 (v := .int _ _) S); (case hx | h1 => rfl); clear S; intro bz wz S) | ((with_reducible apply wps_box1 (v := .bool _) S); (case hx | h1 => rfl); clear S; intro bz wz S) | ((with_reducible apply wps_box1 (v := .slice _ _ _) S); (case hx | h1 => rfl); clear S; intro bz wz S) | ((with_reducible apply wps_box1 (v := .pointer _) S); (case hx | h1 => rfl); clear S; intro bz wz S) | ((with_reducible apply wps_box1 (v := .map _) S); (case hx | h1 => rfl); clear S; intro bz wz S) | ((with_reducible apply wps_box1 (v := .string _) S); (case hx | h1 => rfl); clear S; intro bz wz S) | ((with_reducible apply wps_box1 (v := .func _ _ _) S); (case hx | h1 => rfl); clear S; intro bz wz S) | ((with_reducible apply wps_load S 0); (case hx | hi | hu => rfl); (case hT => decide +kernel))
  go_ret
  exact ⟨_, rfl, S.below⟩
set_option maxRecDepth 100000 in
set_option maxHeartbeats 4000000 in
theorem toerr_calls (tE : TypeId) (pE : Value) (f l : List UInt8) (b c : Int) (w : World) (F : Nat → Prop) (h : (LibA tE pE).at_ w F) (hn : l.length ≤ 4294967296) : Calls Tryz.prog 242 #[strV f, strV l, .int .i64 b, .int .i64 c, .iface 399 (.int .i64 1)] w fun e w' => ∃ N, e = .returned (.iface 403 (.pointer (some ⟨N, 0, none⟩))) ∧ Below w.heap.size w w' := by
  have S : St (fun _ => False) w w [LibA tE pE] := (St.init _ w).share rfl rfl h
  clear h
  have hq12 : ∀ W, (binOp .eql 317 (.iface 399 (.int .i64 1)) (.iface 399 (.int .i64 2))).run Tryz.prog W = .ok (.bool false) W := fun W => Lib.run_eql_iface_int W 1 2 Tryz.underlying317 (by kernel_rfl) Tryz.underlying399
  have hq11 : ∀ W, (binOp .eql 317 (.iface 399 (.int .i64 1)) (.iface 399 (.int .i64 1))).run Tryz.prog W = .ok (.bool true) W := fun W => Lib.run_eql_iface_int W 1 1 Tryz.underlying317 (by kernel_rfl) Tryz.underlying399
  go_enter Tryz.func242, Tryz.ntmps242
  go_wp2_with first | (go_at_call 282; refine Calls.mono (ranger_calls tE pE _ _ _ _ (S.get (i := 0) rfl).choose_spec hn) ?_; rintro e wz ⟨N, rfl, hE⟩; replace S := S.ext (Keep.of_below hE); clear hE) | ((with_reducible refine tot_done ?ht ?_); (case ht => kernel_rfl))
  go_ret
  exact ⟨_, rfl, S.below⟩
theorem heap_freeze (w : World) (a : Addr) (n k : Nat) (h : k ≠ a.block) : (w.freeze a n).heap[k]? = w.heap[k]? := by
  unfold World.freeze
  split
  · rfl
  · simp only [Array.getElem?_modify]
    rw [if_neg (fun e => h e.symm)]
theorem size_freeze (w : World) (a : Addr) (n : Nat) : (w.freeze a n).heap.size = w.heap.size := by
  unfold World.freeze; split <;> simp
theorem bytes_below (w : World) (e : TypeId) (s : ByteArray) : Below w.heap.size w (Lib.bytesWorld w e s) := by
  unfold Lib.bytesWorld
  refine ⟨?_, ?_, ?_, ?_, fun k hk => ?_, ?_⟩
  · unfold World.freeze; split <;> rfl
  · unfold World.freeze; split <;> rfl
  · unfold World.freeze; split <;> rfl
  · rw [size_freeze]; simp
  · rw [heap_freeze _ _ _ _ (by simp only; omega)]; exact heap_alloc_old w.drew _ hk
  · unfold World.freeze; split <;> exact Nat.le_succ _
set_option maxRecDepth 100000 in
set_option maxHeartbeats 4000000 in
theorem atoi_ok (l : List UInt8) (v : Nat) (w : World) (hn : l.length ≤ 4294967296) (hv : Lib.atoiAll l = .ok (v : Int)) : Calls Tryz.prog 194 #[strV l] w fun e w' => e = .returned (.tuple #[.int .i64 v, .nilIface]) ∧ Below w.heap.size w w' := by
  have hc := Tryz.strconv_Atoi_ok (str l) (by rw [str_size]; omega) v (by rw [str_data]; exact hv) w
  refine hc.mono fun e w' ⟨he, hw⟩ => ⟨he, ?_⟩
  rcases hw with rfl | ⟨t, rfl⟩
  · exact Below.refl _ _
  · exact bytes_below _ _ _
set_option maxRecDepth 100000 in
set_option maxHeartbeats 4000000 in
theorem atoi_range (tE : TypeId) (pE : Value) (l : List UInt8) (w : World) (F : Nat → Prop) (h : (LibA tE pE).at_ w F) (hn : l.length ≤ 4294967296) (hv : Lib.atoiAll l = .range) : Calls Tryz.prog 194 #[strV l] w fun e w' => ∃ z N, e = .returned (.tuple #[.int .i64 z, .iface 403 (.pointer (some ⟨N, 0, none⟩))]) ∧ Below w.heap.size w w' := by
  have S : St (fun _ => False) w w [LibA tE pE] := (St.init _ w).share rfl rfl h
  clear h
  have HC : Hid (∀ w : World, Calls Tryz.prog 241 #[strV l] w fun e w' => e = .returned (.tuple #[.int .i64 (Lib.atoiSat l), .iface 399 (.int .i64 1)]) ∧ Below w.heap.size w w') := Lib.hid fun w => by
    have hc := Tryz.internal_strconv_Atoi_all (str l) (by rw [str_size]; omega) w
    rw [str_data, hv] at hc
    refine hc.mono fun e w' ⟨he, hw⟩ => ⟨he, ?_⟩
    rcases hw with rfl | ⟨t, rfl⟩
    · exact Below.refl _ _
    · exact bytes_below _ _ _
  generalize Lib.atoiSat l = z at HC
  clear hv
  go_enter Tryz.func194, Tryz.ntmps194
  go_wp2_with first | (go_at_call 241; refine Calls.mono (HC.out _) ?_; rintro e wz ⟨rfl, hE⟩; replace S := S.ext (Keep.of_below hE); clear hE) | (go_at_call 242; refine Calls.mono (toerr_calls tE pE [65, 116, 111, 105] l 0 0 _ _ (S.get (i := 0) rfl).choose_spec hn) ?_; rintro e wz ⟨N, rfl, hE⟩; replace S := S.ext (Keep.of_below hE); clear hE) | ((with_reducible refine tot_done ?ht ?_); (case ht => kernel_rfl))
  (try simp only [Exit.inBlock, Exit.then]); refine bodyPost_ret (results2 rfl (res_tmp rfl) (res_tmp rfl)) rfl ?_
  exact ⟨_, _, rfl, S.below⟩
end Go.Proofs.YtmjljoaakdocaaaGreatDoor
